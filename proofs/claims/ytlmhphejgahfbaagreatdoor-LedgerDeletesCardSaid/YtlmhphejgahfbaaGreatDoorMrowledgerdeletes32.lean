/- Texts of this claim, one behind the other: RefSum2, Ref4, RefLk. -/
import Derived.Test.YtlmhphejgahfbaaGreatDoorMrowledgerdeletes31
import Derived.Test.YtlmhphejgahfbaaGreatDoorMrowledgerdeletes14
/- Reference 3 (sha): Sum. -/
set_option linter.unusedVariables false
set_option linter.unusedSimpArgs false
namespace Go.Proofs.YtlmhphejgahfbaaGreatDoor
open Go.RowKit

def lenV : Value → Nat
  | .slice _ n _ => n
  | _ => 0
/-- What Sum keeps: the numbers, the state. -/
structure RS (w0 w : World) (B kb hb : Nat) (Hs : Nat → W32) : Prop where
  kw : Words w kb 0 64 Kc
  hw : Words w hb 0 8 Hs
  kB : kb < B
  hB : hb < B
  ne : kb ≠ hb
  k0 : w0.heap.size ≤ kb
  h0 : w0.heap.size ≤ hb
  le : B ≤ w.heap.size
  fr : Fr No w0 w
theorem RS.step {w0 w w' : World} {B kb hb : Nat} {Hs : Nat → W32} (h : RS w0 w B kb hb Hs) (f : Fr (fun i => B ≤ i) w w') : RS w0 w' B kb hb Hs :=
  ⟨h.kw.fr f (fun e => by have := h.kB; omega), h.hw.fr f (fun e => by have := h.hB; omega), h.kB, h.hB, h.ne, h.k0, h.h0, Nat.le_trans h.le f.size, h.fr.trans (f.mono fun i _ e => .inr (by have := h.k0; have := h.kB; omega))⟩
theorem RS.up {w0 w : World} {B B' kb hb : Nat} {Hs : Nat → W32} (h : RS w0 w B kb hb Hs) (h1 : B ≤ B') (h2 : B' ≤ w.heap.size) : RS w0 w B' kb hb Hs :=
  ⟨h.kw, h.hw, Nat.lt_of_lt_of_le h.kB h1, Nat.lt_of_lt_of_le h.hB h1, h.ne, h.k0, h.h0, h2, h.fr⟩
theorem RS.step0 {w0 w w' : World} {B kb hb : Nat} {Hs : Nat → W32} (h : RS w0 w B kb hb Hs) (f : Fr No w w') : RS w0 w' B kb hb Hs := h.step (f.mono fun _ _ e => e.elim)
theorem rd_one {w : World} {F : Nat → Prop} {g : Nat} {x : Int} {b : UInt8} (h : w.heap[g]? = some (.cells #[.int .u8 x] 5 (0, 0))) (hx : x = (b.toNat : Int)) (hF : F g) : Rd Ty.u8 w F (some ⟨g, 0, none⟩) [b] := by
  subst hx
  refine ⟨by simp, [.int .u8 (b.toNat : Int)], cells8_row [b], fun j u hu => ⟨_, rfl, hF, ?_⟩⟩
  rw [add0, blk_cell h]
  simpa using hu
theorem At_one {w : World} {g : Nat} {x : Int} {b : UInt8} (h : w.heap[g]? = some (.cells #[.int .u8 x] 5 (0, 0))) (hx : x = (b.toNat : Int)) : At w (some ⟨g, 0, none⟩) [.int .u8 (b.toNat : Int)] := by
  subst hx; exact At.block h

set_option maxHeartbeats 4000000 in
set_option maxRecDepth 100000 in
theorem ref_sum {w : World} {F : Nat → Prop} {A : Option Addr} {c : Nat} {p : Bs} (hr : Rd Ty.u8 w F A p) (hp : p.length ≤ 1000000000) :
    Calls Tryz.prog 43 #[.slice A p.length c] w fun e w' => e = .returned (.string (sha p)) ∧ Fr No w w' := by
  have hpi : (p.length : Int) ≤ 1000000000 := by omega
  have hp0 : (0 : Int) ≤ (p.length : Int) := Int.natCast_nonneg _
  obtain ⟨kv, hkv⟩ : ∃ kv, KV = kv := ⟨_, rfl⟩
  have hks : kv.size = 64 := by rw [← hkv]; rfl
  have hk1 : kv.all (·.oneCell') = true := by rw [← hkv]; decide +kernel
  have hkw : ∀ (w : World) (b : Nat), w.heap[b]? = some (.cells kv 162 (0, 0)) → Words w b 0 64 Kc := by rw [← hkv]; exact fun w b h => words_kv h
  have hcs := constants_ok w
  rw [hkv] at hcs
  have H := Lib.hid (And.intro hcs (And.intro hkw hr))
  clear hcs hkw hr hkv hp
  go_enter Tryz.func43, Tryz.ntmps43
  go_wp2_with fail
  refine H.out.1.mono ?_
  rintro e1 w1 ⟨rfl, hf1⟩
  go_wp2_with (first
    | refine wpList_alloc64 rfl rfl ?_
    | refine wpList_store64 rfl rfl _ _ rfl _ kv rfl rfl hks (by rfl) hk1 ?_)
  obtain ⟨W, hW⟩ : ∃ W, W = (((w1.alloc (.cells kv 162)).alloc (.cells #[.int .u32 1779033703, .int .u32 3144134277, .int .u32 1013904242, .int .u32 2773480762, .int .u32 1359893119, .int .u32 2600822924, .int .u32 528734635, .int .u32 1541459225] 164)).alloc (.cells #[.int .u8 128] 5)) := ⟨_, rfl⟩
  rw [← hW]
  have hf0 : Fr No w W := by rw [hW]; exact ((hf1.alloc _).alloc _).alloc _
  have b1 : W.heap[w1.heap.size]? = some (.cells kv 162 (0, 0)) := by
    rw [hW, heap_alloc_old _ _ (by simp; omega)]; exact heap_alloc2_old w1 _ _
  have b2 : W.heap[w1.heap.size + 1]? = some (.cells #[.int .u32 1779033703, .int .u32 3144134277, .int .u32 1013904242, .int .u32 2773480762, .int .u32 1359893119, .int .u32 2600822924, .int .u32 528734635, .int .u32 1541459225] 164 (0, 0)) := by
    rw [hW, heap_alloc_old _ _ (by simp)]; exact heap_alloc2_new w1 _ _
  have b3 : W.heap[w1.heap.size + 1 + 1]? = some (.cells #[.int .u8 128] 5 (0, 0)) := by
    rw [hW]; have := heap_alloc_new ((w1.alloc (.cells kv 162)).alloc (.cells #[.int .u32 1779033703, .int .u32 3144134277, .int .u32 1013904242, .int .u32 2773480762, .int .u32 1359893119, .int .u32 2600822924, .int .u32 528734635, .int .u32 1541459225] 164)) (.cells #[.int .u8 128] 5); simpa using this
  have hWs : W.heap.size = w1.heap.size + 1 + 1 + 1 := by rw [hW]; simp
  have hH0 : Words W (w1.heap.size + 1) 0 8 H0 := Words.of b2 rfl fun j hj => by
    match j, hj with
    | 0, _ | 1, _ | 2, _ | 3, _ | 4, _ | 5, _ | 6, _ | 7, _ => rfl
    | n + 8, h => exact absurd h (by omega)
  have hRS : RS w W (w1.heap.size + 1 + 1) w1.heap.size (w1.heap.size + 1) H0 := ⟨H.out.2.1 W _ b1, hH0, by omega, by omega, by omega, hf1.size, by have := hf1.size; omega, by omega, hf0⟩
  have hj := ref_join (w := W) (F := fun _ => True) (c := c) (d := 1) ((H.out.2.2.fr0 hf0).mono fun _ _ _ => trivial) (rd_one (b := 128) b3 rfl trivial) (by simp; omega)
  obtain ⟨kb, hkb⟩ : ∃ kb, w1.heap.size = kb := ⟨_, rfl⟩
  rw [hkb] at hj hRS ⊢
  obtain ⟨hb, hhb⟩ : ∃ hb, kb + 1 = hb := ⟨_, rfl⟩
  rw [hhb] at hj hRS ⊢
  rw [hkb, hhb] at hWs
  have HJ := Lib.hid (And.intro hj (And.intro hRS hWs))
  clear hj hRS hWs b1 b2 b3 hH0 hf0 hW hhb hkb hf1 hks hk1
  refine HJ.out.1.mono ?_
  rintro e2 w2 ⟨A1, c1, rfl, hO, hf2⟩
  have HQ := Lib.hid (And.intro hO (HJ.out.2.1.step0 hf2))
  clear hO hf2
  rw [List.length_append, List.length_singleton] at HQ ⊢
  go_wp2_with fail
  go_loopw [5] (fun v wr => ∃ A n c, v = .slice A n c ∧ Hid (∃ j, j ≤ zeros p.length ∧ n = p.length + 1 + j ∧ Ow Ty.u8 5 wr (fun i => hb + 1 ≤ i) (.slice A n c) (p ++ [128] ++ List.replicate j 0) ∧ RS w wr (hb + 1) kb hb H0)) (fun v _ => zeros p.length + p.length + 1 - lenV v)
  case atStart => exact ⟨A1, p.length + 1, c1, rfl, 0, by omega, rfl, by simpa using HQ.out.1.mono fun i hi _ => by have := HJ.out.2.2; omega, HQ.out.2⟩
  case round =>
    obtain ⟨A2, n, c2, rfl, I⟩ := hrel
    obtain ⟨j, hj, hn, hO, hS⟩ := I.out
    clear I
    have hzl := zeros_lt p.length
    have hn2 : (n : Int) ≤ 2000000000 := by omega
    have hn0 : (0 : Int) ≤ (n : Int) := Int.natCast_nonneg _
    obtain ⟨L, hL⟩ : ∃ L, n % 64 = L := ⟨_, rfl⟩
    have hmod : (n : Int) % 64 = (L : Int) := by omega
    have htm : (n : Int).tmod 64 = (L : Int) := by rw [Int.tmod_eq_emod_of_nonneg hn0]; exact hmod
    by_cases h56 : L = 56
    · subst h56
      obtain rfl : j = zeros p.length := (zeros_end p.length j hj).1 (by omega)
      have hO' := hO
      obtain ⟨q, hq⟩ : ∃ q, p ++ [128] ++ List.replicate (zeros p.length) 0 = q := ⟨_, rfl⟩
      have hql : q.length = n := by rw [← hq, hn]; simp; omega
      have hpad : pad p = q ++ beN (8 * p.length) 8 := by unfold pad; rw [hq, be8_beN]
      rw [hq] at hO'
      have hnum := num_ok (w := wr) (n := 8 * p.length) (k := 8) (by omega) (by decide)
      rw [show ((8 * p.length : Nat) : Int) = 8 * (p.length : Int) by omega, show ((8 : Nat) : Int) = 8 from rfl] at hnum
      have HH := Lib.hid (And.intro hnum (And.intro hO' (And.intro hS (And.intro hql hpad))))
      clear hnum hO hO' hS hql hpad hq hL hj hn hzl
      go_wp2_with fail
      refine HH.out.1.mono ?_
      rintro e3 w3 ⟨A3, c3, rfl, hO3, hf3⟩
      obtain ⟨cs, hrow, hat⟩ := hO3.rd.2.2.at
      obtain ⟨A4, c4, w4, hrun, hO4, hg4, _⟩ := run_ow_append (P := Tryz.prog) (ty := 46) (ty' := 46) Ty.u8 (HH.out.2.1.fr0 hf3) (.int .u8 0) 1 Tryz.underlying46 info_u8 rfl (by decide) (by decide) c3 (ys := beN (8 * p.length) 8) (hrow.imp fun _ _ h => h) hat (by rw [HH.out.2.2.2.1, beN_len]; omega)
      rw [HH.out.2.2.2.1, beN_len] at hrun hO4
      rw [← HH.out.2.2.2.2] at hO4
      have hS4 : RS w w4 (hb + 1) kb hb H0 := (HH.out.2.2.1.step0 hf3).step ((Fr.refl _ w3).grown hg4 fun k hk => .inl (HH.out.2.1.own hk).1)
      have hR4 : Rd Ty.u8 w4 (fun i => hb < i ∧ i < w4.heap.size) A4 (pad p) := hO4.rd.2.2.here.mono fun i hi _ => ⟨by have := HH.out.2.2.1.le; have := hf3.size; rcases hi.1 with h | h <;> omega, hi.2⟩
      have hM : n + 8 = (pad p).length := by rw [HH.out.2.2.2.2, List.length_append, beN_len, HH.out.2.2.2.1]
      have hMc := hO4.rd.2.1
      obtain ⟨PD, hPD⟩ : ∃ PD, pad p = PD := ⟨_, rfl⟩
      have hM64 : (n + 8) % 64 = 0 := by rw [hM]; exact pad_len p
      rw [hPD] at hR4 hM
      obtain ⟨M, hMM⟩ : ∃ M, n + 8 = M := ⟨_, rfl⟩
      rw [hMM] at hrun hM hM64 hMc
      have hMci : (M : Int) ≤ (c4 : Int) := by omega
      clear hMc
      have hMi : (M : Int) ≤ 3000000000 := by omega
      have hM0 : 0 < M := by omega
      have HP := Lib.hid (And.intro hS4 (And.intro hR4 (And.intro hM (And.intro hPD hM64))))
      clear hS4 hR4 hM hPD hM64 hO4 hg4 hat hrow hO3 hf3 HH hmod htm hMM
      go_wp2_with (at_builtin; refine wpList_plain rfl fun K hK => wp_append_run _ _ _ _ rfl rfl rfl hrun (hK _ _ ?_))
      clear hrun
      obtain ⟨ad, hA4, -⟩ := u8_at HP.out.2.1 (i := 0) (by have := HP.out.2.2.1; omega)
      subst hA4
      refine loop2 (F := fun i => hb < i ∧ i < w4.heap.size) HP.out.1.kw HP.out.1.hw HP.out.2.1 (fun h => absurd h.1 (Nat.lt_irrefl _)) HP.out.1.ne HP.out.2.2.1 (by omega) (by omega) HP.out.2.2.2.2 _ _ _ (.pointer none) (.pointer none) (.pointer none) (.pointer none) _ _ _ _ _ _ _ _ _ _ _ _ _ _ _ _ _ _ _ _ _ _ _ _ _ _ _ _ _ _ _ _ _ _ _ _ _ _ _ _ _ _ _ _ _ _ _ _ _ _ _ _ _ _ _ _ _ _ _ _ _ _ _ _ _ _ _ _ _ _ _ _ _ _ _ _ _ _ _ _ _ _ _ _ _ _ _ _ _ _ _ _ _ _ _ _ _ _ _ _ _ _ _ _ _ _ _ _ _ _ _ _ _ _ _ _ _ _ _ _ _ _ _ _ _ _ _ _ _ _ _ _ _ _ _ _ _ _ _ _ _ _ _ _ _ _ _ _ _ _ _ _ _ _ _ _ _ _ _ _ _ _ _ _ _ _ _ _ _ _ _ _ _ _ _ _ _ _ _ _ _ _ _ _ _ _ _ _ _ _ _ _ _ _ _ _ _ _ _ _ _ _ _ _ _ _ _ _ ?_
      intro w5 x6 x7 x8 x9 x10 x11 x12 x13 x14 x15 x16 x17 x18 x19 x20 x42 x43 x44 x45 x46 x47 x48 x49 x50 x51 x52 x53 x54 x55 x56 x57 x58 x59 x60 x61 x62 x63 x64 x65 x66 x67 x68 x69 x70 x71 x72 x73 x74 x75 x76 x77 x78 x79 x80 x81 x82 x83 x84 x85 x86 x87 x88 x89 x90 x91 x92 x93 x94 x95 x96 x97 x98 x99 x100 x101 x102 x103 x104 x105 x106 x107 x108 x109 x110 x111 x112 x113 x114 x115 x116 x117 x118 x119 x120 x121 x122 x123 x124 x125 x126 x127 x128 x129 x130 x131 x132 x133 x134 x135 x136 x137 x138 x139 x140 x141 x142 x143 x144 x145 x146 x147 x148 x149 x150 x151 x152 x153 x154 x155 x156 x157 x158 x159 x160 x161 x162 x163 x164 x165 x166 x167 x168 x169 x170 x171 x172 x173 x174 x175 x176 x177 x178 x179 x180 x181 x182 x183 x184 x185 x186 x187 x188 x189 x190 x191 x192 x193 x194 x195 x196 x197 x198 x199 x200 x201 g1 g2
      have hf5 : Fr No w w5 := HP.out.1.fr.next g2 (fun i hi e => by have := HP.out.1.h0; omega)
      have HQ5 := Lib.hid (And.intro g1 hf5)
      clear g1 g2 hf5
      go_wp2_with fail
      refine loop12 HQ5.out.1 _ _ _ _ (.pointer none) _ _ _ _ _ _ _ _ _ _ _ _ _ _ _ _ (.pointer none) (.pointer none) _ _ _ _ _ _ _ _ _ _ _ _ _ _ _ _ _ _ _ _ _ _ _ _ _ _ _ _ _ _ _ _ _ _ _ _ _ _ _ _ _ _ _ _ _ _ _ _ _ _ _ _ _ _ _ _ _ _ _ _ _ _ _ _ _ _ _ _ _ _ _ _ _ _ _ _ _ _ _ _ _ _ _ _ _ _ _ _ _ _ _ _ _ _ _ _ _ _ _ _ _ _ _ _ _ _ _ _ _ _ _ _ _ _ _ _ _ _ _ _ _ _ _ _ _ _ _ _ _ _ _ _ _ _ _ _ _ _ _ _ _ _ _ _ _ _ _ _ _ _ _ _ _ _ _ _ _ _ _ _ _ _ _ _ _ _ _ _ _ _ _ _ _ _ _ _ _ _ _ _ _ _ _ _ _ _ _ _ _ _ _ _ ?_
      intro w6 A6 c6 x22 x202 x203 x204 x205 x206 x207 x208 x209 x210 x211 x212 g1 g2
      have hstr := run_str (n := 32) (c := c6) g1.rd.2.2 (by rw [outB_len])
      have hout : (⟨(outB (feed H0 PD).1 8).toArray⟩ : ByteArray) = sha p := by unfold sha shaB; rw [HP.out.2.2.2.1]
      rw [hout] at hstr
      have HZ := Lib.hid (HQ5.out.2.next g2 (fun _ _ f => f.elim))
      clear g1 g2 hout
      go_wp2_with fail
      go_ret
      exact ⟨rfl, HZ.out⟩
    · have hne : ((L : Int) == 56) = false := beq_eq_false_iff_ne.2 (by omega)
      have hne2 : ((L : Int) != 56) = true := by rw [bne, hne]; rfl
      have hjz : j < zeros p.length := by
        have := zeros_end p.length j hj
        omega
      have hlen : (p ++ [128] ++ List.replicate j 0).length = n := by rw [hn]; simp; omega
      obtain ⟨W1, hW1⟩ : ∃ W1, W1 = wr.alloc (.cells #[.int .u8 0] 5) := ⟨_, rfl⟩
      have hf1 : Fr No wr W1 := by rw [hW1]; exact (Fr.refl No wr).alloc _
      have hA := At_one (w := W1) (b := 0) (by rw [hW1]; exact heap_alloc_new wr _) rfl
      obtain ⟨A3, c3, w3, hrun, hO1, hg1, _⟩ := run_ow_append (P := Tryz.prog) (ty := 46) (ty' := 46) Ty.u8 (hO.fr0 hf1) (.int .u8 0) 1 Tryz.underlying46 info_u8 rfl (by decide) (by decide) 1 (ys := [0]) (row_u8b _ _ 0) hA (by simp only [List.length_singleton, hlen]; omega)
      rw [hlen] at hrun hO1
      simp only [List.length_singleton] at hrun hO1
      rw [List.append_assoc, ← List.replicate_succ'] at hO1
      have hS2 : RS w w3 (hb + 1) kb hb H0 := (hS.step0 hf1).step ((Fr.refl _ W1).grown hg1 fun k hk => .inl (hO.own hk).1)
      have hsz : hb + 1 ≤ W1.heap.size := Nat.le_trans hS.le hf1.size
      have HH := Lib.hid (And.intro (hO1.mono (G := fun i => hb + 1 ≤ i) fun k hk _ => by rcases hk with hk | hk <;> omega) hS2)
      have hn' := Lib.hid hn
      clear hO hS hO1 hS2 hg1 hA hf1 hlen hL hn
      go_wp2_with (at_builtin; rw [← hW1]; refine wpList_plain rfl fun K hK => wp_append_run _ _ _ _ rfl rfl rfl hrun (hK _ _ ?_))
      go_roundw
      case rel => first | exact ⟨A3, n + 1, c3, rfl, j + 1, hjz, by have := hn'.out; omega, HH.out.1, HH.out.2⟩
      case measure => have := hn'.out; simp [lenV]; omega
end Go.Proofs.YtlmhphejgahfbaaGreatDoor
/- Reference 4 (mark): Empty, LeafBytes, NodeBytes. Lists of items of one's own. -/
set_option linter.unusedVariables false
set_option linter.unusedSimpArgs false
namespace Go.Proofs.YtlmhphejgahfbaaGreatDoor
open Go.RowKit

set_option maxHeartbeats 1000000 in
set_option maxRecDepth 100000 in
theorem ref_empty (w : World) : Calls Tryz.prog 42 #[] w fun e w' => e = .returned (.string dE) ∧ Fr No w w' := by
  have hf : Fr No w (w.alloc (.cells #[.int .u8 0] 5)) := (Fr.refl No w).alloc _
  have hs := ref_sum (c := 1) (rd_new (w := w) (t := 5) (cs := #[.int .u8 0]) (p := [0]) (Fr.refl No _) rfl (by simp)) (by simp)
  have H := Lib.hid (And.intro hs hf)
  clear hs hf
  go_enter Tryz.func42, Tryz.ntmps42
  go_wp2_with fail
  refine H.out.1.mono ?_
  rintro e w1 ⟨rfl, hf⟩
  go_wp2_with fail
  go_ret
  exact ⟨rfl, H.out.2.trans (hf.mono fun _ _ f => f.elim)⟩

set_option maxHeartbeats 1000000 in
set_option maxRecDepth 100000 in
theorem ref_leafb {w : World} {F : Nat → Prop} {A : Option Addr} {c : Nat} {row : Bs} (key : ByteArray) (h : Rd Ty.u8 w F A row) (hk : key.size ≤ 1000) (hr : row.length ≤ 100000) :
    Calls Tryz.prog 168 #[.string key, .slice A row.length c] w fun e w' => ∃ A c, e = .returned (.slice A (leafB key row).length c) ∧ Ow Ty.u8 5 w' (fun i => w.heap.size ≤ i) (.slice A (leafB key row).length c) (leafB key row) ∧ Fr No w w' := by
  have kc := run_txt
  have hk0 : (0 : Int) ≤ (key.size : Int) := Int.natCast_nonneg _
  have hk1 : (key.size : Int) ≤ 1000 := by omega
  have hf1 : Fr No w (w.alloc (.cells #[.int .u8 1] 5)) := (Fr.refl No w).alloc _
  have hone := rd_new (w := w) (t := 5) (cs := #[.int .u8 1]) (p := [1]) (Fr.refl No _) rfl (by simp)
  have hnum := num_ok (w := w.alloc (.cells #[.int .u8 1] 5)) (n := key.size) (k := 4) (by omega) (by decide)
  rw [show ((4 : Nat) : Int) = 4 from rfl] at hnum
  have H := Lib.hid (And.intro hnum (And.intro hone (And.intro hf1 (And.intro h (And.intro hk hr)))))
  obtain ⟨M, hM⟩ : ∃ M, leafB key row = M := ⟨_, rfl⟩
  have HM := Lib.hid hM
  rw [hM]
  clear hM
  clear hnum hone hf1 h hk hr
  go_enter Tryz.func168, Tryz.ntmps168
  go_wp2_with fail
  refine H.out.1.mono ?_
  rintro e w1 ⟨A1, c1, rfl, hO, hf⟩
  have H1 := Lib.hid (And.intro hO hf)
  clear hO hf
  have hj1 := Lib.hid (ref_join (c := 1) (d := c1) (H.out.2.1.fr0 H1.out.2) (H1.out.1.rd.2.2.mono fun _ _ _ => trivial) (by rw [beN_len]; simp))
  rw [beN_len] at hj1
  simp only [List.length_singleton] at hj1
  go_wp2_with fail
  refine hj1.out.mono ?_
  rintro e w2 ⟨A2, c2, rfl, hO, hf⟩
  have H2 := Lib.hid (And.intro hO (H1.out.2.trans (hf.mono fun _ _ f => f.elim)))
  clear hO hf hj1
  obtain ⟨W3, hW3⟩ : ∃ W, W = txtW w2 key := ⟨_, rfl⟩
  have hf3 : Fr No w2 W3 := by rw [hW3]; exact txt_fr _ _
  have hj2 := ref_join (c := c2) (d := txtC w2 key) ((H2.out.1.rd.2.2.fr0 hf3).mono (G := fun _ => True) fun _ _ _ => trivial) (txt_rd' (w := w2) (s := key) (by rw [← hW3]; exact Fr.refl No W3) (by have := H.out.2.2.2.2.1; omega)) (by rw [keyB_len, List.length_append, beN_len]; have := H.out.2.2.2.2.1; simp; omega)
  rw [keyB_len, hW3] at hj2
  have HJ2 := Lib.hid (And.intro hj2 (hW3 ▸ hf3))
  clear hj2 hW3 hf3
  obtain ⟨L, hL⟩ : ∃ L, [1] ++ beN key.size 4 = L := ⟨_, rfl⟩
  have hL' := Lib.hid hL
  rw [hL] at HJ2 H2 ⊢
  clear hL
  go_wp2_with fail
  refine HJ2.out.1.mono ?_
  rintro e w4 ⟨A4, c4, rfl, hO, hf⟩
  have H4 := Lib.hid (And.intro hO (H2.out.2.trans ((HJ2.out.2.trans (hf.mono fun _ _ f => f.elim)).mono fun _ _ f => f.elim)))
  clear hO hf
  have hf04 : Fr No w w4 := H.out.2.2.1.trans (H4.out.2.mono fun _ _ f => f.elim)
  have hj3 := ref_join (c := c4) (d := c) (H4.out.1.rd.2.2.mono (G := fun _ => True) fun _ _ _ => trivial) ((H.out.2.2.2.1.fr0 hf04).mono fun _ _ _ => trivial) (by have := hL'.out; have := H.out.2.2.2.2.1; have := H.out.2.2.2.2.2; rw [← hL'.out, List.length_append, List.length_append, keyB_len, beN_len]; simp; omega)
  have e : L ++ keyB key ++ row = M := by rw [← HM.out, ← hL'.out]; rfl
  rw [e] at hj3
  have HJ3 := Lib.hid (And.intro hj3 hf04)
  clear hj3 hf04 e
  obtain ⟨L2, hL2⟩ : ∃ L2, L ++ keyB key = L2 := ⟨_, rfl⟩
  rw [hL2] at HJ3 H4 ⊢
  clear hL2
  go_wp2_with fail
  refine HJ3.out.1.mono ?_
  rintro e w5 ⟨A5, c5, rfl, hO, hf⟩
  have H5 := Lib.hid (And.intro hO (HJ3.out.2.trans (hf.mono fun _ _ f => f.elim)))
  clear hO hf
  go_wp2_with fail
  go_ret
  exact ⟨A5, c5, rfl, H5.out.1.mono (G := fun i => w.heap.size ≤ i) fun i hi _ => by have := HJ3.out.2.size; omega, H5.out.2⟩

set_option maxHeartbeats 1000000 in
set_option maxRecDepth 100000 in
theorem ref_nodeb (w : World) (l r : ByteArray) (hl : l.size ≤ 1000) (hr : r.size ≤ 1000) :
    Calls Tryz.prog 169 #[.string l, .string r] w fun e w' => ∃ A c, e = .returned (.slice A (nodeB l r).length c) ∧ Rd Ty.u8 w' (fun i => w.heap.size ≤ i) A (nodeB l r) ∧ Fr No w w' := by
  have kc := run_txt
  have e : keyB ((⟨#[2]⟩ : ByteArray) ++ l ++ r) = nodeB l r := by
    unfold keyB nodeB keyB
    simp
  have es : ((⟨#[2]⟩ : ByteArray) ++ l ++ r).size = (nodeB l r).length := by rw [← e, keyB_len]
  have hsz : ((⟨#[2]⟩ : ByteArray) ++ l ++ r).size ≤ 10000 := by
    rw [es]; unfold nodeB; rw [List.length_append, List.length_append, keyB_len, keyB_len]; simp; omega
  have g1 : ¬ 9223372036854775807 < 1 + l.size := by omega
  have g2 : ¬ 9223372036854775807 < 1 + l.size + r.size := by omega
  have es' : 1 + l.size + r.size = (nodeB l r).length := by unfold nodeB; rw [List.length_append, List.length_append, keyB_len, keyB_len]; simp
  have hrd := txt_rd w ((⟨#[2]⟩ : ByteArray) ++ l ++ r) (by omega)
  have hrd' : Rd Ty.u8 (txtW w ((⟨#[2]⟩ : ByteArray) ++ l ++ r)) (fun i => w.heap.size ≤ i) (some ⟨w.heap.size, 0, none⟩) (nodeB l r) := by rw [← e]; exact hrd
  have H := Lib.hid (And.intro hrd' (And.intro es' (txt_fr w ((⟨#[2]⟩ : ByteArray) ++ l ++ r))))
  clear hrd hrd' es es' e hsz hl hr
  go_enter Tryz.func169, Tryz.ntmps169
  go_wp2_with fail
  go_ret
  rw [← H.out.2.1]
  exact ⟨_, _, rfl, H.out.1, H.out.2.2⟩
end Go.Proofs.YtlmhphejgahfbaaGreatDoor
/- Reference 4 and 15: LinkBytes, Link, First. -/
set_option linter.unusedVariables false
set_option linter.unusedSimpArgs false
namespace Go.Proofs.YtlmhphejgahfbaaGreatDoor
open Go.RowKit

set_option maxHeartbeats 1000000 in
set_option maxRecDepth 100000 in
theorem ref_linkb (w : World) (l r s : ByteArray) (hl : l.size ≤ 1000) (hr : r.size ≤ 1000) (hs : s.size ≤ 1000) :
    Calls Tryz.prog 155 #[.string l, .string r, .string s] w fun e w' => ∃ A c, e = .returned (.slice A (linkB l r s).length c) ∧ Rd Ty.u8 w' (fun i => w.heap.size ≤ i) A (linkB l r s) ∧ Fr No w w' := by
  have kc := run_txt
  have e : keyB ((⟨#[3]⟩ : ByteArray) ++ l ++ r ++ s) = linkB l r s := by
    unfold keyB linkB keyB
    simp
  have es : ((⟨#[3]⟩ : ByteArray) ++ l ++ r ++ s).size = (linkB l r s).length := by rw [← e, keyB_len]
  have hsz : ((⟨#[3]⟩ : ByteArray) ++ l ++ r ++ s).size ≤ 10000 := by
    rw [es]; unfold linkB; rw [List.length_append, List.length_append, List.length_append, keyB_len, keyB_len, keyB_len]; simp; omega
  have g1 : ¬ 9223372036854775807 < 1 + l.size := by omega
  have g2 : ¬ 9223372036854775807 < 1 + l.size + r.size := by omega
  have g3 : ¬ 9223372036854775807 < 1 + l.size + r.size + s.size := by omega
  have es' : 1 + l.size + r.size + s.size = (linkB l r s).length := by unfold linkB; rw [List.length_append, List.length_append, List.length_append, keyB_len, keyB_len, keyB_len]; simp
  have hrd := txt_rd w ((⟨#[3]⟩ : ByteArray) ++ l ++ r ++ s) (by omega)
  have hrd' : Rd Ty.u8 (txtW w ((⟨#[3]⟩ : ByteArray) ++ l ++ r ++ s)) (fun i => w.heap.size ≤ i) (some ⟨w.heap.size, 0, none⟩) (linkB l r s) := by rw [← e]; exact hrd
  have H := Lib.hid (And.intro hrd' (And.intro es' (txt_fr w ((⟨#[3]⟩ : ByteArray) ++ l ++ r ++ s))))
  clear hrd hrd' es es' e hsz hl hr hs
  go_enter Tryz.func155, Tryz.ntmps155
  go_wp2_with fail
  go_ret
  rw [← H.out.2.1]
  exact ⟨_, _, rfl, H.out.1, H.out.2.2⟩
set_option maxHeartbeats 1000000 in
set_option maxRecDepth 100000 in
theorem ref_link {w : World} {G : Nat → Prop} {A : Option Addr} {c : Nat} {p : Bs} (l r : ByteArray) (h : Rd Ty.u8 w G A p) (hl : l.size ≤ 1000) (hr : r.size ≤ 1000) (hp : p.length ≤ 1000000000) :
    Calls Tryz.prog 84 #[.string l, .string r, .slice A p.length c] w fun e w' => e = .returned (.string (linkD l r p)) ∧ Fr No w w' := by
  have h1 := ref_sum (c := c) h hp
  obtain ⟨s, hs⟩ : ∃ s, sha p = s := ⟨_, rfl⟩
  have hz : s.size ≤ 1000 := by rw [← hs, sha_size]; decide
  have hlen : (linkB l r s).length ≤ 1000000000 := by
    unfold linkB
    rw [List.length_append, List.length_append, List.length_append, keyB_len, keyB_len, keyB_len]
    simp; omega
  rw [hs] at h1
  have H := Lib.hid (And.intro h1 (And.intro hlen (fun w : World => ref_linkb w l r s hl hr hz)))
  unfold linkD
  rw [hs]
  clear h1 hlen hl hr hz hp h hs
  go_enter Tryz.func84, Tryz.ntmps84
  go_wp2_with fail
  refine H.out.1.mono ?_
  rintro e w1 ⟨rfl, hf1⟩
  have H1 := Lib.hid hf1
  clear hf1
  go_wp2_with fail
  refine (H.out.2.2 _).mono ?_
  rintro e w2 ⟨A2, c2, rfl, hO, hf2⟩
  have H2 := Lib.hid (And.intro (ref_sum (c := c2) hO H.out.2.1) (H1.out.next hf2 (fun _ _ f => f.elim)))
  clear hO hf2
  go_wp2_with fail
  refine H2.out.1.mono ?_
  rintro e w3 ⟨rfl, hf3⟩
  have H3 := Lib.hid (H2.out.2.next hf3 (fun _ _ f => f.elim))
  clear hf3
  go_wp2_with fail
  go_ret
  exact ⟨rfl, H3.out⟩
set_option maxHeartbeats 1000000 in
set_option maxRecDepth 100000 in
theorem ref_first {w : World} : Calls Tryz.prog 36 #[] w fun e w' => e = .returned (.string firstD) ∧ Fr No w w' := by
  have he : dE.size ≤ 1000 := by unfold dE; rw [sha_size]; decide
  have H := Lib.hid (And.intro (fun (w1 : World) => ref_empty w1) (fun (w1 : World) => ref_link (w := w1) (G := No) (A := none) (c := 0) (p := []) dE dE Rd.nil he he (by simp)))
  have HF := Lib.hid (Fr.refl No w)
  clear he
  go_enter Tryz.func36, Tryz.ntmps36
  go_wp2_with fail
  refine (H.out.1 _).mono ?_
  rintro e w1 ⟨rfl, hf1⟩
  have H1 := Lib.hid hf1
  clear hf1
  go_wp2_with fail
  refine (H.out.1 _).mono ?_
  rintro e w2 ⟨rfl, hf2⟩
  have H2 := Lib.hid (H1.out.next hf2 (fun _ _ f => f.elim))
  clear hf2
  go_wp2_with fail
  refine (H.out.2 _).mono ?_
  rintro e w3 ⟨rfl, hf3⟩
  have H3 := Lib.hid (H2.out.next hf3 (fun _ _ f => f.elim))
  clear hf3
  go_wp2_with fail
  go_ret
  exact ⟨rfl, H3.out⟩
end Go.Proofs.YtlmhphejgahfbaaGreatDoor
