/- Layer 15 (ledger): grow. -/
import Derived.Test.YtlmhphejgahfbaaGreatDoorMrowledgerdeletes19
import Derived.Test.YtlmhphejgahfbaaGreatDoorMrowledgerdeletes20
import Derived.Test.YtlmhphejgahfbaaGreatDoorMrowledgerdeletes27
import Derived.Test.YtlmhphejgahfbaaGreatDoorMrowledgerdeletes10
import Derived.Deep.RegionHeld3
set_option linter.unusedVariables false
set_option linter.unusedSimpArgs false
namespace Go.Proofs.YtlmhphejgahfbaaGreatDoor
open Go.RowKit

theorem growT_snoc (t : Tr) (ws : List Wr) (x : Wr) : Led.growT t (ws ++ [x]) = if x.gone then (Led.growT t ws).del hbit x.key 0 else (Led.growT t ws).put hbit sameK (x.key, x.row) 0 := by unfold Led.growT; rw [List.foldl_append]; rfl
theorem growT_ok {t : Tr} (h : TrOk t 0) (ws : List Wr) : TrOk (Led.growT t ws) 0 ∧ (Led.growT t ws).len ≤ t.len + ws.length := by
  induction ws generalizing t with
  | nil => exact ⟨h, Nat.le_refl _⟩
  | cons x ws ih =>
    have h1 : TrOk (if x.gone then t.del hbit x.key 0 else t.put hbit sameK (x.key, x.row) 0) 0 ∧ (if x.gone then t.del hbit x.key 0 else t.put hbit sameK (x.key, x.row) 0).len ≤ t.len + 1 := by
      cases x.gone with
      | true => exact ⟨h.del _, Nat.le_trans (del_full hbit h.full _ _).2 (Nat.le_succ _)⟩
      | false => exact ⟨h.put _, (put_full hbit sameK h.full _ _).2⟩
    obtain ⟨a, b⟩ := ih h1.1
    refine ⟨a, ?_⟩
    have h2 := h1.2
    rw [List.length_cons]
    have h3 : Led.growT t (x :: ws) = Led.growT (if x.gone then t.del hbit x.key 0 else t.put hbit sameK (x.key, x.row) 0) ws := rfl
    rw [h3]
    omega

theorem NodeAt.isPtr {F : Nat → Prop} {w : World} {v : Value} {t : Tr} (h : NodeAt F w v t) : ∃ o, v = .pointer o := by
  cases t with
  | nil => exact ⟨none, h⟩
  | leaf key r => obtain ⟨b, A, c, rfl, _⟩ := h; exact ⟨_, rfl⟩
  | node l r => obtain ⟨b, vl, vr, rfl, _⟩ := h; exact ⟨_, rfl⟩
set_option maxHeartbeats 40000000 in
set_option maxRecDepth 100000 in
theorem led_grow {w : World} {col : Nat → Nat} {lb : Nat} {L : Led} {A : Option Addr} {c sb mb : Nat} {vst : Value} {l : List (Int × Value)} {R : Nat → Prop} {Aw : Option Addr} {cw n N : Nat} {ws : List Wr} {m : Nat} (hP : LedP w col lb L A c sb mb vst l) (hR : Rd tWr w R Aw ws) (hn : n = ws.length) (hl : ws.length ≤ 64)
    (hk : ∀ x ∈ ws, x.key.size ≤ 1000 ∧ x.row.length ≤ 4000) (hs1 : 1 ≤ L.sts.length) (hs6 : L.sts.length ≤ 6) (hok : TrOk L.last.t 0) (hlen : L.last.t.len ≤ 300000) (hdig : L.last.dig.size ≤ 1000) (hN : N ≤ 1000000000) :
    Calls Tryz.prog 79 #[.pointer (some ⟨lb, 0, none⟩), .agg #[.int .i64 (N : Int), .slice Aw n cw]] w fun e w' => e = .returned (.tuple #[]) ∧
      (∃ col' vst', (∀ i, i < w.heap.size → col' i = col i) ∧ LedP w' col' lb { L with sts := Led.keep6 (L.sts ++ [⟨linkD L.last.dig (digT (Led.growT L.last.t ws)) (recB N ws), L.last.dig, sha (recB N ws), Led.growT L.last.t ws⟩]) } A c sb mb vst' l) ∧ Fr (fun i => col i = 1 ∨ col i = 4) w w' := by
  subst hn
  obtain ⟨Av, cv, rfl, hcv, hst⟩ := hP.sts.slice
  have hlt : L.sts.length - 1 < L.sts.length := by omega
  obtain ⟨ad, vt, rfl, s0, s1, s2, s3, hnode⟩ := stt_at hst hlt
  have hlast : L.sts[L.sts.length - 1]'hlt = L.last := by
    unfold Led.last
    rw [List.getLastD_eq_getLast?, List.getLast?_eq_getElem?, List.getElem?_eq_getElem hlt]; rfl
  rw [hlast] at s0 s1 s2 hnode
  obtain ⟨vo, rfl⟩ := hnode.isPtr
  have c4 := blk_cell hP.blk 4
  simp at c4
  have hsl0 : (1 : Int) ≤ (L.sts.length : Int) := by omega
  have hsl6 : (L.sts.length : Int) ≤ 6 := by omega
  obtain ⟨q, hq⟩ : ∃ q, L.sts.length = q := ⟨_, rfl⟩
  have hidx : (L.sts.length : Int) - 1 = ((L.sts.length - 1 : Nat) : Int) := by omega
  obtain ⟨p, hp⟩ : ∃ p, L.sts.length - 1 = p := ⟨_, rfl⟩
  rw [hp] at hidx s0 s1 s2 s3
  rw [hq] at hidx hsl0 hsl6 c4
  have hp0 : (0 : Int) ≤ (p : Int) := Int.natCast_nonneg _
  have hpq : (p : Int) < (q : Int) := by omega
  have hwp : IntKind.i64.wrap (p : Int) = (p : Int) := IntWalk.i64_in _ (by omega)
  have H := Lib.hid (And.intro hP (And.intro hR (And.intro hk (And.intro hok (And.intro hlen (And.intro hdig (And.intro hnode (And.intro hq hs6))))))))
  clear hP hR hk hok hlen hdig hnode hst hlast hlt hp hs1 hs6 hcv hq
  obtain ⟨W1, hW1⟩ : ∃ W1, W1 = w.alloc (.cells #[.int .i64 (N : Int), .slice Aw ws.length cw] 69) := ⟨_, rfl⟩
  have hf1 : Fr No w W1 := by rw [hW1]; exact (Fr.refl No w).alloc _
  have hb1 : W1.heap[w.heap.size]? = some (.cells #[.int .i64 (N : Int), .slice Aw ws.length cw] 69 (0, 0)) := by rw [hW1]; exact heap_alloc_new w _
  have c4 := hf1.cell c4 (fun f => f)
  have s0 := hf1.cell s0 (fun f => f)
  have s1 := hf1.cell s1 (fun f => f)
  have s2 := hf1.cell s2 (fun f => f)
  have s3 := hf1.cell s3 (fun f => f)
  have c4z := cell_alloc c4 (.cells #[.string ⟨#[]⟩, .string ⟨#[]⟩, .string ⟨#[]⟩, .pointer none] 81)
  have s0z := cell_alloc s0 (.cells #[.string ⟨#[]⟩, .string ⟨#[]⟩, .string ⟨#[]⟩, .pointer none] 81)
  have s1z := cell_alloc s1 (.cells #[.string ⟨#[]⟩, .string ⟨#[]⟩, .string ⟨#[]⟩, .pointer none] 81)
  have s2z := cell_alloc s2 (.cells #[.string ⟨#[]⟩, .string ⟨#[]⟩, .string ⟨#[]⟩, .pointer none] 81)
  have s3z := cell_alloc s3 (.cells #[.string ⟨#[]⟩, .string ⟨#[]⟩, .string ⟨#[]⟩, .pointer none] 81)
  have c4y := cell_alloc c4 (.cells #[.string L.last.dig, .string L.last.last, .string L.last.sum, .pointer vo] 81)
  have s0y := cell_alloc s0 (.cells #[.string L.last.dig, .string L.last.last, .string L.last.sum, .pointer vo] 81)
  have s1y := cell_alloc s1 (.cells #[.string L.last.dig, .string L.last.last, .string L.last.sum, .pointer vo] 81)
  have s2y := cell_alloc s2 (.cells #[.string L.last.dig, .string L.last.last, .string L.last.sum, .pointer vo] 81)
  have s3y := cell_alloc s3 (.cells #[.string L.last.dig, .string L.last.last, .string L.last.sum, .pointer vo] 81)
  have H1 := Lib.hid (And.intro hf1 hb1)
  clear hf1 hb1
  go_enter Tryz.func79, Tryz.ntmps79
  go_wp2_with fail
  rw [← hW1]
  clear hW1
  go_region_held3 (fun w' => w'.cell? ⟨lb, 4, none⟩ = some (.slice (some ad) q cv) ∧ w'.cell? (ad.add (p * 4)) = some (.string L.last.dig) ∧ w'.cell? ⟨(ad.add (p * 4)).block, (ad.add (p * 4)).off + 1, none⟩ = some (.string L.last.last) ∧ w'.cell? ⟨(ad.add (p * 4)).block, (ad.add (p * 4)).off + 2, none⟩ = some (.string L.last.sum) ∧ w'.cell? ⟨(ad.add (p * 4)).block, (ad.add (p * 4)).off + 3, none⟩ = some (.pointer vo))
    (first
      | exact ⟨c4, s0, s1, s2, s3⟩
      | exact ⟨c4z, s0z, s1z, s2z, s3z⟩
      | exact ⟨c4y, s0y, s1y, s2y, s3y⟩)
    (fail)
  obtain ⟨W2, hW2⟩ : ∃ W2, W2 = (W1.alloc (.cells #[.string L.last.dig, .string L.last.last, .string L.last.sum, .pointer vo] 81)).drew := ⟨_, rfl⟩
  have hf12 : Fr No W1 W2 := by rw [hW2]; exact ((Fr.refl No W1).alloc _).drew
  have hb2 : W2.heap[W1.heap.size]? = some (.cells #[.string L.last.dig, .string L.last.last, .string L.last.sum, .pointer vo] 81 (0, 0)) := by rw [hW2]; exact heap_alloc_new W1 _
  have hf2 : Fr No w W2 := H1.out.1.next hf12 (fun _ _ f => f.elim)
  have d3 := blk_cell hb2 3
  have e1 := blk_cell (hf12.blk H1.out.2 (fun f => f)) 1
  simp at d3 e1
  have hz1 : w.heap.size < W1.heap.size := blk_lt H1.out.2
  have H2 := Lib.hid (And.intro hf2 (And.intro hb2 (And.intro (hf12.blk H1.out.2 (fun f => f)) hz1)))
  clear hf12 hb2 hf2 hz1 c4 s0 s1 s2 s3 c4z s0z s1z s2z s3z c4y s0y s1y s2y s3y
  rw [← hW2]
  clear hW2
  go_wp2_with fail
  go_loopw [5, 26] (fun v iv wr => ∃ (k : Nat) (o : Option Addr), k ≤ ws.length ∧ iv = .int .i64 (k : Int) ∧ v = .pointer o ∧ Hid (NodeAt (fun i => col i = 5 ∨ w.heap.size ≤ i) wr (.pointer o) (Led.growT L.last.t (ws.take k)) ∧ Fr No W2 wr)) (fun _ iv _ => ws.length - (intOf iv).toNat)
  case atStart => exact ⟨0, vo, Nat.zero_le _, rfl, rfl, (H.out.2.2.2.2.2.2.1.fr0 H2.out.1).mono fun i hi _ => .inl hi.1, Fr.refl No W2⟩
  case round =>
    obtain ⟨k, o, hk, rfl, rfl, I⟩ := hrel
    have hk0 : (0 : Int) ≤ (k : Int) := Int.natCast_nonneg _
    have hfwr : Fr No w wr := H2.out.1.next I.out.2 (fun _ _ f => f.elim)
    by_cases hlt : k < ws.length
    · have hk1 : (k : Int) < (ws.length : Int) := by omega
      obtain ⟨ad', D, cr, rfl, x0, x1, x2, hcr, hrow⟩ := wrr_at (H.out.2.1.fr0 hfwr) hlt
      obtain ⟨hkey, hrl⟩ := H.out.2.2.1 ws[k] (List.getElem_mem hlt)
      have hsnoc := growT_snoc L.last.t (ws.take k) ws[k]
      rw [← List.take_succ_eq_append_getElem hlt] at hsnoc
      obtain ⟨hTok, hTlen⟩ := growT_ok H.out.2.2.2.1 (ws.take k)
      have hTl : (Led.growT L.last.t (ws.take k)).len ≤ 400000 := by have := H.out.2.2.2.2.1; rw [List.length_take] at hTlen; omega
      obtain ⟨x, hx⟩ : ∃ x, ws[k] = x := ⟨_, rfl⟩
      rw [hx] at x0 x1 x2 hcr hrow hkey hrl hsnoc
      clear hx
      obtain ⟨key, row, gone⟩ := x
      dsimp only at x0 x1 x2 hcr hrow hkey hrl hsnoc
      obtain ⟨W3, hW3⟩ : ∃ W3, W3 = wr.alloc (.cells #[.string key, .slice D row.length cr, .bool gone] 117) := ⟨_, rfl⟩
      have hf3 : Fr No wr W3 := by rw [hW3]; exact (Fr.refl No wr).alloc _
      have hB : ∀ i, W3.heap.size ≤ i → (col i = 5 ∨ w.heap.size ≤ i) := fun i hi => .inr (Nat.le_trans hfwr.size (Nat.le_trans hf3.size hi))
      have hkat : KAt W3 := (H.out.1.kat.fr0 hfwr).fr0 hf3
      have hdel := Del_ok key (I.out.1.fr0 hf3) hkey hkat hB hTok.full hTl (by have := hTok.dp; omega)
      have hput := Put_ok (c := cr) key (I.out.1.fr0 hf3) (hrow.fr0 hf3) hkey (by omega) hkat hB hTok.full hTl (by have := hTok.dp; omega) hTok.placed (fun k _ hne => by obtain ⟨i, a, b⟩ := sum_bits hne; exact ⟨i, a, b⟩)
      have HC := Lib.hid (And.intro hdel (And.intro hput (And.intro hsnoc (I.out.2.next hf3 (fun _ _ f => f.elim)))))
      clear hdel hput hsnoc hkat hB hf3 hTl hTlen hTok hrow hcr hkey hrl hfwr
      rw [hW3] at HC
      clear hW3
      cases gone with
      | true =>
        go_wp2_with (go_at_call 146; refine HC.out.1.mono ?_; rintro e w4 ⟨u, rfl, hn4, hf4⟩; obtain ⟨o4, rfl⟩ := hn4.isPtr; have H4 := Lib.hid (And.intro hn4 hf4); clear hn4 hf4)
        go_roundw
        case rel => exact ⟨k + 1, o4, by omega, by go_num, rfl, by rw [HC.out.2.2.1]; exact H4.out.1, HC.out.2.2.2.next H4.out.2 (fun _ _ f => f.elim)⟩
        case measure => simp [intOf]; omega
      | false =>
        go_wp2_with (go_at_call 147; refine HC.out.2.1.mono ?_; rintro e w4 ⟨u, rfl, hn4, hf4⟩; obtain ⟨o4, rfl⟩ := hn4.isPtr; have H4 := Lib.hid (And.intro hn4 hf4); clear hn4 hf4)
        go_roundw
        case rel => exact ⟨k + 1, o4, by omega, by go_num, rfl, by rw [HC.out.2.2.1]; exact H4.out.1, HC.out.2.2.2.next H4.out.2 (fun _ _ f => f.elim)⟩
        case measure => simp [intOf]; omega
    · obtain rfl : k = ws.length := by omega
      rw [List.take_length] at I
      have hT := growT_ok H.out.2.2.2.1 ws
      obtain ⟨T, hTT⟩ : ∃ T, Led.growT L.last.t ws = T := ⟨_, rfl⟩
      rw [hTT] at I hT
      have hPr := H.out.1.fr0 hfwr
      have g0 := blk_cell ((I.out.2.blk H2.out.2.2.1 (fun f => f))) 0
      have g1 := blk_cell ((I.out.2.blk H2.out.2.2.1 (fun f => f))) 1
      simp at g0 g1
      have henc := encode_ok (c := cw) (N := N) (H.out.2.1.fr0 hfwr) rfl hl hN (fun x hx => by have := H.out.2.2.1 x hx; omega)
      have HE := Lib.hid (And.intro henc (And.intro hPr (And.intro hT (And.intro hTT hfwr))))
      clear henc hPr hT hTT hfwr
      go_wp2_with (go_at_call 148; refine HE.out.1.mono ?_; rintro e w3 ⟨Ae, ce, rfl, ho3, hf3⟩; have H3 := Lib.hid (And.intro ho3 hf3); clear ho3 hf3)
      have hHW : Fr No w w3 := HE.out.2.2.2.2.next H3.out.2 (fun _ _ f => f.elim)
      have hq := H.out.2.2.2.2.2.2.2.1
      have hs6 := H.out.2.2.2.2.2.2.2.2
      have hblk : w3.heap[lb]? = some (.cells #[.slice A L.tabs.length c, .pointer (some ⟨sb, 0, none⟩), .map (some mb), .int .i64 L.next, .slice (some ad) q cv] 87 (0, 0)) := by
        have := hHW.blk H.out.1.blk (fun f => f)
        rw [hq] at this
        exact this
      have hdb : w3.heap[W1.heap.size]? = some (.cells #[.string L.last.dig, .string L.last.last, .string L.last.sum, .pointer vo] 81 (0, 0)) := (I.out.2.next H3.out.2 (fun _ _ f => f.elim)).blk H2.out.2.1 (fun f => f)
      have c4 := blk_cell hblk 4
      have z4 := blk_frozen hblk 4
      have t0 := blk_cell hdb 0
      simp at c4 t0
      -- the colours: what the loop made is trees
      obtain ⟨col2, hcol2⟩ : ∃ col2, col2 = ext (ext col w.heap.size 5) wr.heap.size 4 := ⟨_, rfl⟩
      have hcold : ∀ i, i < w.heap.size → col2 i = col i := fun i hi => by rw [hcol2, ext_old _ (Nat.lt_of_lt_of_le hi HE.out.2.2.2.2.size), ext_old _ hi]
      have hcnew : ∀ i, wr.heap.size ≤ i → col2 i = 4 := fun i hi => by rw [hcol2]; exact ext_new _ hi
      have hctree : ∀ i, i < wr.heap.size → (col i = 5 ∨ w.heap.size ≤ i) → col2 i = 5 := fun i hi h => by
        rw [hcol2, ext_old _ hi]
        rcases Nat.lt_or_ge i w.heap.size with h1 | h1
        · rw [ext_old _ h1]; rcases h with h | h; exact h; omega
        · exact ext_new _ h1
      have hP3 : LedP w3 col2 lb L A c sb mb (.slice (some ad) L.sts.length cv) l := (H.out.1.recol hcold).fr0 hHW
      have hN3 : NodeAt (fun i => col2 i = 5) w3 (.pointer o) T := (I.out.1.mono fun i hi hl => hctree i hl hi).fr0 H3.out.2
      have hdT : (digT T).size ≤ 1000 := by rw [digT_size]; decide
      have hlrb : (recB (N : Int) ws).length ≤ 10000000000 := by
        have h1 : (ws.flatMap wrB).length ≤ 8010 * ws.length := flat_le' fun x hx => by have := H.out.2.2.1 x hx; exact wrB_le (by omega) this.2
        unfold recB
        rw [List.length_append, List.length_append, beN_len, beN_len]
        omega
      have hdl := H.out.2.2.2.2.2.1
      have HD := Lib.hid fun (W : World) (f : Fr No w3 W) => dig_ok (hN3.fr0 f) (hP3.kat.fr0 f)
      have HL := Lib.hid fun (W : World) (f : Fr No w3 W) => link_ok (c := ce) L.last.dig (digT T) (H3.out.1.rd.2.2.fr0 f) (hP3.kat.fr0 f) hdl hdT hlrb (by rw [sha_size]; decide)
      have HS := Lib.hid fun (W : World) (f : Fr No w3 W) => sum_ok (c := ce) (H3.out.1.rd.2.2.fr0 f) (hP3.kat.fr0 f) hlrb
      have HK := Lib.hid fun (W : World) (f : Fr No w3 W) => And.intro (f.blk hblk (fun f => f)) (f.blk hdb (fun f => f))
      have HO := Lib.hid fun (W : World) (f : Fr No w3 W) => hP3.sts.fr0 f
      have hrow : ∀ (W : World) (dg sm : ByteArray), Fr No w3 W → Row (tStt col2) W (fun i => (col2 i = 4 ∨ col2 i = 5) ∧ (Value.slice (some ad) L.sts.length cv).ownBlock ≠ some i) [⟨dg, L.last.dig, sm, T⟩] [.string dg, .string L.last.dig, .string sm, .pointer o] := fun W dg sm f =>
        Row.single (t := tStt col2) ⟨.pointer o, rfl, (hN3.fr0 f).mono fun i hi _ => ⟨hi, .inr hi, fun e => by have := hP3.own i e; omega⟩⟩
      have HR := Lib.hid hrow
      rw [hq] at HO HR
      have hdc : col2 W1.heap.size = 5 := hctree _ (Nat.lt_of_lt_of_le (blk_lt H2.out.2.1) I.out.2.size) (.inr (Nat.le_of_lt H2.out.2.2.2))
      have HDC := Lib.hid hdc
      clear hdc
      have HP3 := Lib.hid (And.intro hP3 (And.intro hcold (And.intro hcnew (And.intro hHW (And.intro HE.out.2.2.2.1 (And.intro hq (And.intro hs6 (Nat.le_trans HE.out.2.2.2.2.size H3.out.2.size))))))))
      have hz3 := H3.out.2.size
      have HZ := Lib.hid hz3
      clear hP3 hN3 hdT hlrb hdl hrow hblk hdb hHW hcold hcnew hctree hcol2 hq hs6 hz3 g0 g1 d3 e1 I HE
      obtain ⟨rb, hrb⟩ : ∃ rb, recB (N : Int) ws = rb := ⟨_, rfl⟩
      rw [hrb] at HL HS H3
      have HRB := Lib.hid hrb
      refine wp_region_tail 21 (fun w' => w'.cell? ⟨W1.heap.size, 0, none⟩ = some (.string L.last.dig) ∧ w'.cell? ⟨lb, 4, none⟩ = some (.slice (some ad) q cv)) (by kernel_rfl) ⟨t0, c4⟩ (fun hHeld => ?_)
      refine WalkTail.take (i := 0) (v := ?v0) rfl (by kernel_rfl) (fun _ _ _ h => h) (Or.inl ⟨by rfl, ?hy0⟩) (by assumption) ?_
      case hy0 => (intro w hSw; (try dsimp only at hSw); go_simp; try with_reducible rfl)
      (try simp only [Act.put, List.setIfInBounds_toArray, List.set_cons_zero, List.set_cons_succ])
      refine WalkTail.take (i := 1) (v := ?v1) rfl (by kernel_rfl) (fun _ _ _ h => h) (Or.inl ⟨by rfl, ?hy1⟩) (by assumption) ?_
      case hy1 => (intro w hSw; (try dsimp only at hSw); go_simp; try with_reducible rfl)
      (try simp only [Act.put, List.setIfInBounds_toArray, List.set_cons_zero, List.set_cons_succ])
      refine WalkTail.take (i := 2) (v := ?v2) rfl (by kernel_rfl) (fun _ _ _ h => h) (Or.inl ⟨by rfl, ?hy2⟩) (by assumption) ?_
      case hy2 => (intro w hSw; (try dsimp only at hSw); go_simp; try with_reducible rfl)
      (try simp only [Act.put, List.setIfInBounds_toArray, List.set_cons_zero, List.set_cons_succ])
      refine WalkTail.take (i := 3) (v := ?v3) rfl (by kernel_rfl) (fun _ _ _ h => h) (Or.inl ⟨by rfl, ?hy3⟩) (by assumption) ?_
      case hy3 => (intro w hSw; (try dsimp only at hSw); go_simp; try with_reducible rfl)
      (try simp only [Act.put, List.setIfInBounds_toArray, List.set_cons_zero, List.set_cons_succ])
      refine WalkTail.take (i := 4) (v := ?v4) rfl (by kernel_rfl) (fun _ _ _ h => h) (Or.inl ⟨by rfl, ?hy4⟩) (by assumption) ?_
      case hy4 => (intro w hSw; (try dsimp only at hSw); go_simp; try with_reducible rfl)
      (try simp only [Act.put, List.setIfInBounds_toArray, List.set_cons_zero, List.set_cons_succ])
      refine WalkTail.take (i := 5) (v := ?v5) rfl (by kernel_rfl) (fun _ _ _ h => h) (Or.inl ⟨by rfl, ?hy5⟩) (by assumption) ?_
      case hy5 => (intro w hSw; (try dsimp only at hSw); go_simp; try with_reducible rfl)
      (try simp only [Act.put, List.setIfInBounds_toArray, List.set_cons_zero, List.set_cons_succ])
      refine WalkTail.take (i := 6) (v := ?v6) rfl (by kernel_rfl) (fun _ _ _ h => h) (Or.inl ⟨by rfl, ?hy6⟩) (by assumption) ?_
      case hy6 => (intro w hSw; (try dsimp only at hSw); go_simp; try with_reducible rfl)
      (try simp only [Act.put, List.setIfInBounds_toArray, List.set_cons_zero, List.set_cons_succ])
      refine WalkTail.take (i := 7) (v := ?v7) rfl (by kernel_rfl) (fun _ _ _ h => h) (Or.inl ⟨by rfl, ?hy7⟩) (by assumption) ?_
      case hy7 => (intro w hSw; (try dsimp only at hSw); go_simp; try with_reducible rfl)
      (try simp only [Act.put, List.setIfInBounds_toArray, List.set_cons_zero, List.set_cons_succ])
      refine WalkTail.take (i := 9) (v := ?v9) rfl (by kernel_rfl) (fun _ _ _ h => h) (Or.inl ⟨by rfl, ?hy9⟩) (by assumption) ?_
      case hy9 => (intro w hSw; (try dsimp only at hSw); go_simp; try with_reducible rfl)
      (try simp only [Act.put, List.setIfInBounds_toArray, List.set_cons_zero, List.set_cons_succ])
      refine WalkTail.take (i := 11) (v := ?v11) rfl (by kernel_rfl) (fun _ _ _ h => h) (Or.inl ⟨by rfl, ?hy11⟩) (by assumption) ?_
      case hy11 => (intro w hSw; (try dsimp only at hSw); go_simp; try with_reducible rfl)
      (try simp only [Act.put, List.setIfInBounds_toArray, List.set_cons_zero, List.set_cons_succ])
      refine WalkTail.take (i := 12) (v := ?v12) rfl (by kernel_rfl) (fun _ _ _ h => h) (Or.inl ⟨by rfl, ?hy12⟩) (by assumption) ?_
      case hy12 => (intro w hSw; (try dsimp only at hSw); go_simp; try with_reducible rfl)
      (try simp only [Act.put, List.setIfInBounds_toArray, List.set_cons_zero, List.set_cons_succ])
      refine WalkTail.take (i := 13) (v := ?v13) rfl (by kernel_rfl) (fun _ _ _ h => h) (Or.inl ⟨by rfl, ?hy13⟩) (by assumption) ?_
      case hy13 => (intro w hSw; (try dsimp only at hSw); go_simp; try with_reducible rfl)
      (try simp only [Act.put, List.setIfInBounds_toArray, List.set_cons_zero, List.set_cons_succ])
      refine WalkTail.take (i := 15) (v := ?v15) rfl (by kernel_rfl) (fun _ _ _ h => h) (Or.inl ⟨by rfl, ?hy15⟩) (by assumption) ?_
      case hy15 => (intro w hSw; (try dsimp only at hSw); go_simp; try with_reducible rfl)
      (try simp only [Act.put, List.setIfInBounds_toArray, List.set_cons_zero, List.set_cons_succ])
      refine WalkTail.one (i := 8) rfl (by kernel_rfl) (by decide) (fun K hK => ?_)
      go_simp
      go_at_call 131
      refine (HD.out _ (by repeat (first | exact Fr.refl _ _ | apply Fr.drew | apply Fr.drewN))).mono ?_
      rintro e5 w5 ⟨rfl, hf5⟩
      have hg5 : Fr No w3 w5 := Fr.next (by repeat (first | exact Fr.refl _ _ | apply Fr.drew | apply Fr.drewN)) hf5 (fun _ _ f => f.elim)
      have HG5 := Lib.hid hg5
      clear hf5 hg5
      go_wp2_with fail
      refine hK.out _ _ ?_ (fun hHeld => ?_)
      · exact ⟨blk_cell (HK.out _ HG5.out).2 0, blk_cell (HK.out _ HG5.out).1 4⟩
      clear hK K
      (try simp only [Act.put, List.setIfInBounds_toArray, List.set_cons_zero, List.set_cons_succ])
      refine WalkTail.one (i := 10) rfl (by kernel_rfl) (by decide) (fun K hK => ?_)
      go_simp
      go_at_call 83
      refine (HL.out _ (by repeat (first | exact HG5.out | apply Fr.drew | apply Fr.drewN))).mono ?_
      rintro e6 w6 ⟨rfl, hf6⟩
      have hg6 : Fr No w3 w6 := Fr.next (by repeat (first | exact HG5.out | apply Fr.drew | apply Fr.drewN)) hf6 (fun _ _ f => f.elim)
      have HG6 := Lib.hid hg6
      clear hf6 hg6
      go_wp2_with fail
      refine hK.out _ _ ?_ (fun hHeld => ?_)
      · exact ⟨blk_cell (HK.out _ HG6.out).2 0, blk_cell (HK.out _ HG6.out).1 4⟩
      clear hK K
      (try simp only [Act.put, List.setIfInBounds_toArray, List.set_cons_zero, List.set_cons_succ])
      refine WalkTail.one (i := 14) rfl (by kernel_rfl) (by decide) (fun K hK => ?_)
      go_simp
      go_at_call 39
      refine (HS.out _ (by repeat (first | exact HG6.out | apply Fr.drew | apply Fr.drewN))).mono ?_
      rintro e7 w7 ⟨rfl, hf7⟩
      have hg7 : Fr No w3 w7 := Fr.next (by repeat (first | exact HG6.out | apply Fr.drew | apply Fr.drewN)) hf7 (fun _ _ f => f.elim)
      have HG7 := Lib.hid hg7
      clear hf7 hg7
      go_wp2_with fail
      refine hK.out _ _ ?_ (fun hHeld => ?_)
      · exact ⟨blk_cell (HK.out _ HG7.out).2 0, blk_cell (HK.out _ HG7.out).1 4⟩
      clear hK K
      (try simp only [Act.put, List.setIfInBounds_toArray, List.set_cons_zero, List.set_cons_succ])
      refine WalkTail.take (i := 16) (v := ?v16) rfl (by kernel_rfl) (fun _ _ _ h => h) (Or.inl ⟨by rfl, ?hy16⟩) (by assumption) ?_
      case hy16 => (intro w hSw; (try dsimp only at hSw); go_simp; try with_reducible rfl)
      (try simp only [Act.put, List.setIfInBounds_toArray, List.set_cons_zero, List.set_cons_succ])
      refine WalkTail.one (i := 17) rfl (by kernel_rfl) (by decide) (fun K hK => ?_)
      go_simp
      refine hK.out _ _ ?_ (fun hHeld => ?_)
      · exact ⟨blk_cell (HK.out _ (by repeat (first | exact HG7.out | apply Fr.alloc | apply Fr.drew | apply Fr.drewN))).2 0, blk_cell (HK.out _ (by repeat (first | exact HG7.out | apply Fr.alloc | apply Fr.drew | apply Fr.drewN))).1 4⟩
      clear hK K
      (try simp only [Act.put, List.setIfInBounds_toArray, List.set_cons_zero, List.set_cons_succ])
      refine WalkTail.one (i := 18) rfl (by kernel_rfl) (by decide) (fun K hK => ?_)
      refine ow_append_step (tStt col2) (ys := [⟨linkD L.last.dig (digT T) rb, L.last.dig, sha rb, T⟩]) (HO.out _ (by repeat (first | exact HG7.out | apply Fr.alloc | apply Fr.drew | apply Fr.drewN))) _ _ (.agg #[.string ⟨#[]⟩, .string ⟨#[]⟩, .string ⟨#[]⟩, .pointer none]) 56 rfl rfl Tryz.underlying85 info_stt rfl (by decide) (show 0 < 4 by decide) rfl rfl rfl (HR.out _ _ _ (by repeat (first | exact HG7.out | apply Fr.alloc | apply Fr.drew | apply Fr.drewN))) (At.block (heap_alloc_new _ _)) (by have h1 := HP3.out.2.2.2.2.2.1; have h2 := HP3.out.2.2.2.2.2.2.1; simp only [List.length_singleton]; omega) ?_
      intro A8 c8 w8 ho8 hg8 hat8
      have hq := HP3.out.2.2.2.2.2.1
      simp only [List.length_singleton, hq] at ho8 hat8 ⊢
      have hgA : Fr No w3 (w7.alloc (.cells #[.string (linkD L.last.dig (digT T) rb), .string L.last.dig, .string (sha rb), .pointer o] 81)) := by repeat (first | exact HG7.out | apply Fr.alloc | apply Fr.drew | apply Fr.drewN)
      have hown8 : ∀ i, (Value.slice (some ad) q cv).ownBlock = some i → col2 i = 4 ∧ i < w3.heap.size := fun i hi => by
        rw [← hq] at hi
        exact ⟨HP3.out.1.own i hi, (HP3.out.1.sts.own hi).2⟩
      have hf8 : Fr (fun i => col2 i = 4) w3 w8 := (hgA.mono fun _ _ f => f.elim).grown hg8 fun i hi => .inl (hown8 i hi).1
      have hb8 := hf8.blk (HK.out _ (Fr.refl No w3)).1 (fun e => by have := HP3.out.1.c1; omega)
      have c4 := blk_cell hb8 4
      have z4 := blk_frozen hb8 4
      have hd8 := hf8.blk (HK.out _ (Fr.refl No w3)).2 (fun e => by have := HDC.out; omega)
      have t0 := blk_cell hd8 0
      have t0s := blk_cell (blk_far hd8 (p := ⟨lb, 4, none⟩) (fun e => by have h1 := HDC.out; have h2 := HP3.out.1.c1; rw [show W1.heap.size = lb from e] at h1; omega) (.slice A8 (q + 1) c8)) 0
      have H8 := Lib.hid (And.intro ho8 (And.intro hat8 (And.intro hf8 (And.intro hb8 (And.intro hgA.size hg8.size)))))
      clear ho8 hg8 hat8 hgA hown8 hf8 hb8 hq hd8
      refine hK.out _ _ ?_ (fun hHeld => ?_)
      · exact ⟨t0, c4⟩
      clear hK K
      (try simp only [Act.put, List.setIfInBounds_toArray, List.set_cons_zero, List.set_cons_succ])
      refine WalkTail.take (i := 19) (v := ?v19) rfl (by kernel_rfl) (fun _ _ _ h => h) (Or.inl ⟨by rfl, ?hy19⟩) (by assumption) ?_
      case hy19 => (intro w hSw; (try dsimp only at hSw); go_simp; try with_reducible rfl)
      (try simp only [Act.put, List.setIfInBounds_toArray, List.set_cons_zero, List.set_cons_succ])
      refine WalkTail.take (i := 20) (v := ?v20) rfl (by kernel_rfl) (fun _ _ _ h => h) (Or.inl ⟨by rfl, ?hy20⟩) (by assumption) ?_
      case hy20 => (intro w hSw; (try dsimp only at hSw); go_simp; try with_reducible rfl)
      (try simp only [Act.put, List.setIfInBounds_toArray, List.set_cons_zero, List.set_cons_succ])
      refine WalkTail.last rfl (by kernel_rfl) (by kernel_rfl) (fun K hK => ?_)
      go_simp
      refine hK.out _ _ ?_
      all_goals
        obtain ⟨w9, hw9⟩ : ∃ w9, w9 = w8.setCell ⟨lb, 4, none⟩ (.slice A8 (q + 1) c8) := ⟨_, rfl⟩
        rw [← hw9]
        have hS9 : Fr (fun i => i = lb) w8 w9 := by rw [hw9]; exact (Fr.refl (fun i => i = lb) w8).set ⟨lb, 4, none⟩ (.inl rfl) _
        have hb9 : LedB w9 lb (.slice A L.tabs.length c) sb mb L.next (.slice A8 (q + 1) c8) := by
          rw [hw9]
          have h1 := blk_set H8.out.2.2.2.1 4 (.slice A8 (q + 1) c8)
          unfold LedB
          simpa using h1
        have hlb := HP3.out.1.c1
        have hO9 : Ow (tStt col2) 81 w9 (fun i => col2 i = 4 ∨ col2 i = 5) (.slice A8 (q + 1) c8) (L.sts ++ [⟨linkD L.last.dig (digT T) rb, L.last.dig, sha rb, T⟩]) := by
          refine (H8.out.1.mono (G := fun i => col2 i = 4 ∨ col2 i = 5) fun i hi _ => ?_).fr hS9 (fun i hi e => by rw [show i = lb from e] at hi; omega)
          rcases hi with hi | hi
          · exact hi
          · left; exact HP3.out.2.2.1 i (by have h1 := HZ.out; have h2 := H8.out.2.2.2.2.1; omega)
        have hown9 : ∀ i, (Value.slice A8 (q + 1) c8).ownBlock = some i → col2 i = 4 := fun i hi => by
          rcases H8.out.2.1 with h | h
          · rw [h, ← HP3.out.2.2.2.2.2.1] at hi; exact HP3.out.1.own i hi
          · rw [h] at hi
            refine HP3.out.2.2.1 i ?_
            have h1 := HZ.out
            have h2 := H8.out.2.2.2.2.1
            have h3 := Option.some.inj hi
            omega
        have hP9 := HP3.out.1.withSts hb9 hO9 hown9 ((H8.out.2.2.1.mono fun i _ h => .inr h).next hS9 (fun i hi e => .inl (by rw [show i = lb from e]; exact hlb)))
        have k4 := blk_cell hb9 4
        have y4 := blk_frozen hb9 4
        have f9 : Fr (fun i => col2 i = 1 ∨ col2 i = 4) w3 w9 := (H8.out.2.2.1.mono fun i _ h => .inr h).next hS9 (fun i hi e => .inl (by rw [show i = lb from e]; exact hlb))
        simp at k4
        have H9 := Lib.hid (And.intro hP9 f9)
        clear hS9 hb9 hO9 hown9 hP9 hw9 hlb f9 c4 z4 t0 t0s
        obtain ⟨lo, hlo⟩ : ∃ lo : Nat, lo = q + 1 - 6 := ⟨_, rfl⟩
        have hsts9 := H9.out.1.sts
        obtain ⟨Ah, ch, heq, hcap, hRd9⟩ := hsts9.slice
        have hq := HP3.out.2.2.2.2.2.1
        have hl9 : (L.sts ++ [(⟨linkD L.last.dig (digT T) rb, L.last.dig, sha rb, T⟩ : Stt)]).length = q + 1 := by rw [List.length_append, hq]; rfl
        rw [hl9] at heq hcap
        obtain ⟨rfl, -, rfl⟩ : A8 = Ah ∧ q + 1 = q + 1 ∧ c8 = ch := by injection heq with a b c; exact ⟨a, rfl, c⟩
        have hRd : Rd (tStt col2) w9 (fun i => col2 i = 4 ∨ col2 i = 5) (A8.map (·.add (lo * 4))) ((L.sts ++ [(⟨linkD L.last.dig (digT T) rb, L.last.dig, sha rb, T⟩ : Stt)]).drop lo) := hRd9.drop lo
        have hkl : ((L.sts ++ [(⟨linkD L.last.dig (digT T) rb, L.last.dig, sha rb, T⟩ : Stt)]).drop lo).length = q + 1 - lo := by rw [List.length_drop, hl9]
        have hclone := fun (W : World) (f : Fr No w9 W) => clone_stt (c := c8 - lo) (n := q + 1 - lo) (hRd.fr0 f) (by intro e; rw [e] at hkl; simp at hkl; omega) hkl.symm (by rw [hkl]; omega)
        have hk6 : (L.sts ++ [(⟨linkD L.last.dig (digT T) rb, L.last.dig, sha rb, T⟩ : Stt)]).drop lo = Led.keep6 (L.sts ++ [⟨linkD L.last.dig (digT T) rb, L.last.dig, sha rb, T⟩]) := by unfold Led.keep6; rw [hl9, hlo]
        rw [hk6] at hclone hkl
        have hb9' := H9.out.1.blk
        have HB9 := Lib.hid (show w9.heap[lb]? = some (.cells #[.slice A L.tabs.length c, .pointer (some ⟨sb, 0, none⟩), .map (some mb), .int .i64 L.next, .slice A8 (q + 1) c8] 87 (0, 0)) from hb9')
        have hfin : ∀ (w10 : World) (A10 : Option Addr) (n10 c10 : Nat), Ow (tStt col2) 81 w10 (fun i => (col2 i = 5 ∧ i < w9.heap.size) ∨ w9.heap.size ≤ i) (.slice A10 n10 c10) (Led.keep6 (L.sts ++ [⟨linkD L.last.dig (digT T) rb, L.last.dig, sha rb, T⟩])) → Fr No w9 w10 → (∀ k, (Value.slice A10 n10 c10).ownBlock = some k → w9.heap.size ≤ k) →
            Ending.returned (Value.tuple #[]) = Ending.returned (Value.tuple #[]) ∧ (∃ col' vst', (∀ i, i < w.heap.size → col' i = col i) ∧ LedP (w10.setCell ⟨lb, 4, none⟩ (.slice A10 n10 c10)) col' lb { L with sts := Led.keep6 (L.sts ++ [⟨linkD L.last.dig (digT (Led.growT L.last.t ws)) (recB N ws), L.last.dig, sha (recB N ws), Led.growT L.last.t ws⟩]) } A c sb mb vst' l) ∧ Fr (fun i => col i = 1 ∨ col i = 4) w (w10.setCell ⟨lb, 4, none⟩ (.slice A10 n10 c10)) := by
          intro w10 A10 n10 c10 ho hf hw
          have hlb := HP3.out.1.c1
          have hz39 := H9.out.2.size
          have hzz := HZ.out
          have hnew : ∀ i, w9.heap.size ≤ i → col2 i = 4 := fun i hi => HP3.out.2.2.1 i (by omega)
          have hS : Fr (fun i => i = lb) w10 (w10.setCell ⟨lb, 4, none⟩ (.slice A10 n10 c10)) := (Fr.refl (fun i => i = lb) w10).set ⟨lb, 4, none⟩ (.inl rfl) _
          have hbb : LedB (w10.setCell ⟨lb, 4, none⟩ (.slice A10 n10 c10)) lb (.slice A L.tabs.length c) sb mb L.next (.slice A10 n10 c10) := by
            have h1 := blk_set (hf.blk HB9.out (fun f => f)) 4 (.slice A10 n10 c10)
            unfold LedB
            simpa using h1
          have hO : Ow (tStt col2) 81 (w10.setCell ⟨lb, 4, none⟩ (.slice A10 n10 c10)) (fun i => col2 i = 4 ∨ col2 i = 5) (.slice A10 n10 c10) (Led.keep6 (L.sts ++ [⟨linkD L.last.dig (digT T) rb, L.last.dig, sha rb, T⟩])) :=
            (ho.mono fun i hi _ => by rcases hi with hi | hi; exact .inr hi.1; exact .inl (hnew i hi)).fr hS (fun i hi e => by rw [show i = lb from e] at hi; omega)
          have fS : Fr (fun i => col2 i = 1 ∨ col2 i = 4) w9 (w10.setCell ⟨lb, 4, none⟩ (.slice A10 n10 c10)) := (hf.mono (G := fun i => col2 i = 1 ∨ col2 i = 4) fun _ _ f => f.elim).next hS (fun i hi e => .inl (by rw [show i = lb from e]; exact hlb))
          have hPf := H9.out.1.withSts hbb hO (fun k hk => hnew k (hw k hk)) fS
          refine ⟨rfl, ⟨col2, .slice A10 n10 c10, HP3.out.2.1, ?_⟩, (HP3.out.2.2.2.1.mono (G := fun i => col i = 1 ∨ col i = 4) fun _ _ f => f.elim).next (H9.out.2.next fS (fun i hi e => e)) (fun i hi e => by rw [HP3.out.2.1 i hi] at e; exact e)⟩
          rw [HP3.out.2.2.2.2.1, HRB.out]
          exact hPf
        have HFIN := Lib.hid hfin
        clear hfin hb9' hkl hk6 hRd hRd9 hsts9 hl9 hq
        rcases (show q = 1 ∨ q = 2 ∨ q = 3 ∨ q = 4 ∨ q = 5 ∨ q = 6 by omega) with rfl | rfl | rfl | rfl | rfl | rfl
        · obtain rfl : lo = 0 := by omega
          have hA0 : A8.map (·.add (0 * 4)) = A8 := by cases A8 with | none => rfl | some a => simp [Addr.add]
          rw [hA0] at hclone
          clear hA0
          have hcap2 : (2 : Int) ≤ (c8 : Int) := by have : 1 + 1 ≤ c8 := hcap; omega
          have hmx : max (-4 : Int) 0 = 0 := by decide
          have hmx2 : max (IntKind.i64.wrap (-4)) 0 = 0 := by decide
          have hc0 : ¬ c8 = 0 := by omega
          have hA1 : A8.map (fun x => x.add 0) = A8 := by cases A8 with | none => rfl | some a => simp [Addr.add]
          have hclone2 : ∀ (W : World), Fr No w9 W → Calls Tryz.prog 149 #[.slice A8 2 c8] W fun e w' => ∃ A1 c1, e = .returned (.slice A1 2 c1) ∧ Ow (tStt col2) 81 w' (fun i => (col2 i = 5 ∧ i < W.heap.size) ∨ W.heap.size ≤ i) (.slice A1 2 c1) (Led.keep6 (L.sts ++ [⟨linkD L.last.dig (digT T) rb, L.last.dig, sha rb, T⟩])) ∧ Fr No W w' ∧ ∀ k, (Value.slice A1 2 c1).ownBlock = some k → W.heap.size ≤ k := hclone
          have HC := Lib.hid hclone2
          clear hclone2 hclone hcap hlo hidx hsl0 hsl6 hpq
          go_wp2_with fail
          refine wp_region_tail 16 (fun w' => w'.cell? ⟨lb, 4, none⟩ = some (.slice A8 (1 + 1) c8)) (by kernel_rfl) k4 (fun hHeld => ?_)
          refine WalkTail.take (i := 0) (v := ?vq1x0) rfl (by kernel_rfl) (fun _ _ _ h => h) (Or.inl ⟨by rfl, ?hyq1x0⟩) (by assumption) ?_
          case hyq1x0 => (intro w hSw; (try dsimp only at hSw); go_simp; try with_reducible rfl)
          (try simp only [Act.put, List.setIfInBounds_toArray, List.set_cons_zero, List.set_cons_succ])
          refine WalkTail.take (i := 1) (v := ?vq1x1) rfl (by kernel_rfl) (fun _ _ _ h => h) (Or.inl ⟨by rfl, ?hyq1x1⟩) (by assumption) ?_
          case hyq1x1 => (intro w hSw; (try dsimp only at hSw); go_simp; try with_reducible rfl)
          (try simp only [Act.put, List.setIfInBounds_toArray, List.set_cons_zero, List.set_cons_succ])
          refine WalkTail.take (i := 2) (v := ?vq1x2) rfl (by kernel_rfl) (fun _ _ _ h => h) (Or.inl ⟨by rfl, ?hyq1x2⟩) (by assumption) ?_
          case hyq1x2 => (intro w hSw; (try dsimp only at hSw); go_simp; try with_reducible rfl)
          (try simp only [Act.put, List.setIfInBounds_toArray, List.set_cons_zero, List.set_cons_succ])
          refine WalkTail.take (i := 3) (v := ?vq1x3) rfl (by kernel_rfl) (fun _ _ _ h => h) (Or.inl ⟨by rfl, ?hyq1x3⟩) (by assumption) ?_
          case hyq1x3 => (intro w hSw; (try dsimp only at hSw); go_simp; try with_reducible rfl)
          (try simp only [Act.put, List.setIfInBounds_toArray, List.set_cons_zero, List.set_cons_succ])
          refine WalkTail.take (i := 4) (v := ?vq1x4) rfl (by kernel_rfl) (fun _ _ _ h => h) (Or.inl ⟨by rfl, ?hyq1x4⟩) (by assumption) ?_
          case hyq1x4 => (intro w hSw; (try dsimp only at hSw); go_simp; try with_reducible rfl)
          (try simp only [Act.put, List.setIfInBounds_toArray, List.set_cons_zero, List.set_cons_succ])
          refine WalkTail.take (i := 5) (v := ?vq1x5) rfl (by kernel_rfl) (fun _ _ _ h => h) (Or.inl ⟨by rfl, ?hyq1x5⟩) (by assumption) ?_
          case hyq1x5 => (intro w hSw; (try dsimp only at hSw); go_simp; try with_reducible rfl)
          (try simp only [Act.put, List.setIfInBounds_toArray, List.set_cons_zero, List.set_cons_succ])
          refine WalkTail.take (i := 6) (v := ?vq1x6) rfl (by kernel_rfl) (fun _ _ _ h => h) (Or.inl ⟨by rfl, ?hyq1x6⟩) (by assumption) ?_
          case hyq1x6 => (intro w hSw; (try dsimp only at hSw); go_simp; try with_reducible rfl)
          (try simp only [Act.put, List.setIfInBounds_toArray, List.set_cons_zero, List.set_cons_succ])
          refine WalkTail.take (i := 7) (v := ?vq1x7) rfl (by kernel_rfl) (fun _ _ _ h => h) (Or.inl ⟨by rfl, ?hyq1x7⟩) (by assumption) ?_
          case hyq1x7 => (intro w hSw; (try dsimp only at hSw); go_simp; try with_reducible rfl)
          (try simp only [Act.put, List.setIfInBounds_toArray, List.set_cons_zero, List.set_cons_succ])
          refine WalkTail.take (i := 8) (v := ?vq1x8) rfl (by kernel_rfl) (fun _ _ _ h => h) (Or.inl ⟨by rfl, ?hyq1x8⟩) (by assumption) ?_
          case hyq1x8 => (intro w hSw; (try dsimp only at hSw); go_simp; try with_reducible rfl)
          (try simp only [Act.put, List.setIfInBounds_toArray, List.set_cons_zero, List.set_cons_succ])
          refine WalkTail.take (i := 9) (v := ?vq1x9) rfl (by kernel_rfl) (fun _ _ _ h => h) (Or.inl ⟨by rfl, ?hyq1x9⟩) (by assumption) ?_
          case hyq1x9 => (intro w hSw; (try dsimp only at hSw); go_simp; try with_reducible rfl)
          (try simp only [Act.put, List.setIfInBounds_toArray, List.set_cons_zero, List.set_cons_succ])
          refine WalkTail.take (i := 10) (v := ?vq1x10) rfl (by kernel_rfl) (fun _ _ _ h => h) (Or.inl ⟨by rfl, ?hyq1x10⟩) (by assumption) ?_
          case hyq1x10 => (intro w hSw; (try dsimp only at hSw); go_simp; try with_reducible rfl)
          (try simp only [Act.put, List.setIfInBounds_toArray, List.set_cons_zero, List.set_cons_succ])
          refine WalkTail.take (i := 11) (v := ?vq1x11) rfl (by kernel_rfl) (fun _ _ _ h => h) (Or.inl ⟨by rfl, ?hyq1x11⟩) (by assumption) ?_
          case hyq1x11 => (intro w hSw; (try dsimp only at hSw); go_simp; try with_reducible rfl)
          (try simp only [Act.put, List.setIfInBounds_toArray, List.set_cons_zero, List.set_cons_succ])
          refine WalkTail.take (i := 12) (v := ?vq1x12) rfl (by kernel_rfl) (fun _ _ _ h => h) (Or.inl ⟨by rfl, ?hyq1x12⟩) (by assumption) ?_
          case hyq1x12 => (intro w hSw; (try dsimp only at hSw); go_simp; try with_reducible rfl)
          (try simp only [Act.put, List.setIfInBounds_toArray, List.set_cons_zero, List.set_cons_succ])
          refine WalkTail.one (i := 13) rfl (by kernel_rfl) (by decide) (fun K hK => ?_)
          go_simp
          go_at_call 149; (try simp only [hmx, show (((0 : Int)).toNat) = 0 from rfl]); refine (HC.out _ (by repeat (first | exact Fr.refl _ _ | apply Fr.drew | apply Fr.drewN))).mono ?_; rintro e10 w10 ⟨A10, c10, rfl, ho10, hf10, hw10⟩
          have hg10 : Fr No w9 w10 := Fr.next (by repeat (first | exact Fr.refl No w9 | apply Fr.drew | apply Fr.drewN)) hf10 (fun _ _ f => f.elim)
          have k4 := blk_cell (hg10.blk HB9.out (fun f => f)) 4
          have y4 := blk_frozen (hg10.blk HB9.out (fun f => f)) 4
          have H10 := Lib.hid (And.intro ho10 (And.intro hg10 hw10))
          clear ho10 hf10 hw10 hg10
          go_wp2_with fail
          refine hK.out _ _ ?_ (fun hHeld => ?_)
          · exact k4
          clear hK K
          (try simp only [Act.put, List.setIfInBounds_toArray, List.set_cons_zero, List.set_cons_succ])
          refine WalkTail.take (i := 14) (v := ?vq1x14) rfl (by kernel_rfl) (fun _ _ _ h => h) (Or.inl ⟨by rfl, ?hyq1x14⟩) (by assumption) ?_
          case hyq1x14 => (intro w hSw; (try dsimp only at hSw); go_simp; try with_reducible rfl)
          (try simp only [Act.put, List.setIfInBounds_toArray, List.set_cons_zero, List.set_cons_succ])
          refine WalkTail.take (i := 15) (v := ?vq1x15) rfl (by kernel_rfl) (fun _ _ _ h => h) (Or.inl ⟨by rfl, ?hyq1x15⟩) (by assumption) ?_
          case hyq1x15 => (intro w hSw; (try dsimp only at hSw); go_simp; try with_reducible rfl)
          (try simp only [Act.put, List.setIfInBounds_toArray, List.set_cons_zero, List.set_cons_succ])
          refine WalkTail.last rfl (by kernel_rfl) (by kernel_rfl) (fun K hK => ?_)
          go_simp
          refine hK.out _ _ ?_
          all_goals
            go_end0
            exact ⟨rfl, (HFIN.out _ _ _ _ H10.out.1 H10.out.2.1 H10.out.2.2).2⟩
        · obtain rfl : lo = 0 := by omega
          have hA0 : A8.map (·.add (0 * 4)) = A8 := by cases A8 with | none => rfl | some a => simp [Addr.add]
          rw [hA0] at hclone
          clear hA0
          have hcap2 : (3 : Int) ≤ (c8 : Int) := by have : 2 + 1 ≤ c8 := hcap; omega
          have hmx : max (-3 : Int) 0 = 0 := by decide
          have hmx2 : max (IntKind.i64.wrap (-3)) 0 = 0 := by decide
          have hc0 : ¬ c8 = 0 := by omega
          have hA1 : A8.map (fun x => x.add 0) = A8 := by cases A8 with | none => rfl | some a => simp [Addr.add]
          have hclone2 : ∀ (W : World), Fr No w9 W → Calls Tryz.prog 149 #[.slice A8 3 c8] W fun e w' => ∃ A1 c1, e = .returned (.slice A1 3 c1) ∧ Ow (tStt col2) 81 w' (fun i => (col2 i = 5 ∧ i < W.heap.size) ∨ W.heap.size ≤ i) (.slice A1 3 c1) (Led.keep6 (L.sts ++ [⟨linkD L.last.dig (digT T) rb, L.last.dig, sha rb, T⟩])) ∧ Fr No W w' ∧ ∀ k, (Value.slice A1 3 c1).ownBlock = some k → W.heap.size ≤ k := hclone
          have HC := Lib.hid hclone2
          clear hclone2 hclone hcap hlo hidx hsl0 hsl6 hpq
          go_wp2_with fail
          refine wp_region_tail 16 (fun w' => w'.cell? ⟨lb, 4, none⟩ = some (.slice A8 (2 + 1) c8)) (by kernel_rfl) k4 (fun hHeld => ?_)
          refine WalkTail.take (i := 0) (v := ?vq2x0) rfl (by kernel_rfl) (fun _ _ _ h => h) (Or.inl ⟨by rfl, ?hyq2x0⟩) (by assumption) ?_
          case hyq2x0 => (intro w hSw; (try dsimp only at hSw); go_simp; try with_reducible rfl)
          (try simp only [Act.put, List.setIfInBounds_toArray, List.set_cons_zero, List.set_cons_succ])
          refine WalkTail.take (i := 1) (v := ?vq2x1) rfl (by kernel_rfl) (fun _ _ _ h => h) (Or.inl ⟨by rfl, ?hyq2x1⟩) (by assumption) ?_
          case hyq2x1 => (intro w hSw; (try dsimp only at hSw); go_simp; try with_reducible rfl)
          (try simp only [Act.put, List.setIfInBounds_toArray, List.set_cons_zero, List.set_cons_succ])
          refine WalkTail.take (i := 2) (v := ?vq2x2) rfl (by kernel_rfl) (fun _ _ _ h => h) (Or.inl ⟨by rfl, ?hyq2x2⟩) (by assumption) ?_
          case hyq2x2 => (intro w hSw; (try dsimp only at hSw); go_simp; try with_reducible rfl)
          (try simp only [Act.put, List.setIfInBounds_toArray, List.set_cons_zero, List.set_cons_succ])
          refine WalkTail.take (i := 3) (v := ?vq2x3) rfl (by kernel_rfl) (fun _ _ _ h => h) (Or.inl ⟨by rfl, ?hyq2x3⟩) (by assumption) ?_
          case hyq2x3 => (intro w hSw; (try dsimp only at hSw); go_simp; try with_reducible rfl)
          (try simp only [Act.put, List.setIfInBounds_toArray, List.set_cons_zero, List.set_cons_succ])
          refine WalkTail.take (i := 4) (v := ?vq2x4) rfl (by kernel_rfl) (fun _ _ _ h => h) (Or.inl ⟨by rfl, ?hyq2x4⟩) (by assumption) ?_
          case hyq2x4 => (intro w hSw; (try dsimp only at hSw); go_simp; try with_reducible rfl)
          (try simp only [Act.put, List.setIfInBounds_toArray, List.set_cons_zero, List.set_cons_succ])
          refine WalkTail.take (i := 5) (v := ?vq2x5) rfl (by kernel_rfl) (fun _ _ _ h => h) (Or.inl ⟨by rfl, ?hyq2x5⟩) (by assumption) ?_
          case hyq2x5 => (intro w hSw; (try dsimp only at hSw); go_simp; try with_reducible rfl)
          (try simp only [Act.put, List.setIfInBounds_toArray, List.set_cons_zero, List.set_cons_succ])
          refine WalkTail.take (i := 6) (v := ?vq2x6) rfl (by kernel_rfl) (fun _ _ _ h => h) (Or.inl ⟨by rfl, ?hyq2x6⟩) (by assumption) ?_
          case hyq2x6 => (intro w hSw; (try dsimp only at hSw); go_simp; try with_reducible rfl)
          (try simp only [Act.put, List.setIfInBounds_toArray, List.set_cons_zero, List.set_cons_succ])
          refine WalkTail.take (i := 7) (v := ?vq2x7) rfl (by kernel_rfl) (fun _ _ _ h => h) (Or.inl ⟨by rfl, ?hyq2x7⟩) (by assumption) ?_
          case hyq2x7 => (intro w hSw; (try dsimp only at hSw); go_simp; try with_reducible rfl)
          (try simp only [Act.put, List.setIfInBounds_toArray, List.set_cons_zero, List.set_cons_succ])
          refine WalkTail.take (i := 8) (v := ?vq2x8) rfl (by kernel_rfl) (fun _ _ _ h => h) (Or.inl ⟨by rfl, ?hyq2x8⟩) (by assumption) ?_
          case hyq2x8 => (intro w hSw; (try dsimp only at hSw); go_simp; try with_reducible rfl)
          (try simp only [Act.put, List.setIfInBounds_toArray, List.set_cons_zero, List.set_cons_succ])
          refine WalkTail.take (i := 9) (v := ?vq2x9) rfl (by kernel_rfl) (fun _ _ _ h => h) (Or.inl ⟨by rfl, ?hyq2x9⟩) (by assumption) ?_
          case hyq2x9 => (intro w hSw; (try dsimp only at hSw); go_simp; try with_reducible rfl)
          (try simp only [Act.put, List.setIfInBounds_toArray, List.set_cons_zero, List.set_cons_succ])
          refine WalkTail.take (i := 10) (v := ?vq2x10) rfl (by kernel_rfl) (fun _ _ _ h => h) (Or.inl ⟨by rfl, ?hyq2x10⟩) (by assumption) ?_
          case hyq2x10 => (intro w hSw; (try dsimp only at hSw); go_simp; try with_reducible rfl)
          (try simp only [Act.put, List.setIfInBounds_toArray, List.set_cons_zero, List.set_cons_succ])
          refine WalkTail.take (i := 11) (v := ?vq2x11) rfl (by kernel_rfl) (fun _ _ _ h => h) (Or.inl ⟨by rfl, ?hyq2x11⟩) (by assumption) ?_
          case hyq2x11 => (intro w hSw; (try dsimp only at hSw); go_simp; try with_reducible rfl)
          (try simp only [Act.put, List.setIfInBounds_toArray, List.set_cons_zero, List.set_cons_succ])
          refine WalkTail.take (i := 12) (v := ?vq2x12) rfl (by kernel_rfl) (fun _ _ _ h => h) (Or.inl ⟨by rfl, ?hyq2x12⟩) (by assumption) ?_
          case hyq2x12 => (intro w hSw; (try dsimp only at hSw); go_simp; try with_reducible rfl)
          (try simp only [Act.put, List.setIfInBounds_toArray, List.set_cons_zero, List.set_cons_succ])
          refine WalkTail.one (i := 13) rfl (by kernel_rfl) (by decide) (fun K hK => ?_)
          go_simp
          go_at_call 149; (try simp only [hmx, show (((0 : Int)).toNat) = 0 from rfl]); refine (HC.out _ (by repeat (first | exact Fr.refl _ _ | apply Fr.drew | apply Fr.drewN))).mono ?_; rintro e10 w10 ⟨A10, c10, rfl, ho10, hf10, hw10⟩
          have hg10 : Fr No w9 w10 := Fr.next (by repeat (first | exact Fr.refl No w9 | apply Fr.drew | apply Fr.drewN)) hf10 (fun _ _ f => f.elim)
          have k4 := blk_cell (hg10.blk HB9.out (fun f => f)) 4
          have y4 := blk_frozen (hg10.blk HB9.out (fun f => f)) 4
          have H10 := Lib.hid (And.intro ho10 (And.intro hg10 hw10))
          clear ho10 hf10 hw10 hg10
          go_wp2_with fail
          refine hK.out _ _ ?_ (fun hHeld => ?_)
          · exact k4
          clear hK K
          (try simp only [Act.put, List.setIfInBounds_toArray, List.set_cons_zero, List.set_cons_succ])
          refine WalkTail.take (i := 14) (v := ?vq2x14) rfl (by kernel_rfl) (fun _ _ _ h => h) (Or.inl ⟨by rfl, ?hyq2x14⟩) (by assumption) ?_
          case hyq2x14 => (intro w hSw; (try dsimp only at hSw); go_simp; try with_reducible rfl)
          (try simp only [Act.put, List.setIfInBounds_toArray, List.set_cons_zero, List.set_cons_succ])
          refine WalkTail.take (i := 15) (v := ?vq2x15) rfl (by kernel_rfl) (fun _ _ _ h => h) (Or.inl ⟨by rfl, ?hyq2x15⟩) (by assumption) ?_
          case hyq2x15 => (intro w hSw; (try dsimp only at hSw); go_simp; try with_reducible rfl)
          (try simp only [Act.put, List.setIfInBounds_toArray, List.set_cons_zero, List.set_cons_succ])
          refine WalkTail.last rfl (by kernel_rfl) (by kernel_rfl) (fun K hK => ?_)
          go_simp
          refine hK.out _ _ ?_
          all_goals
            go_end0
            exact ⟨rfl, (HFIN.out _ _ _ _ H10.out.1 H10.out.2.1 H10.out.2.2).2⟩
        · obtain rfl : lo = 0 := by omega
          have hA0 : A8.map (·.add (0 * 4)) = A8 := by cases A8 with | none => rfl | some a => simp [Addr.add]
          rw [hA0] at hclone
          clear hA0
          have hcap2 : (4 : Int) ≤ (c8 : Int) := by have : 3 + 1 ≤ c8 := hcap; omega
          have hmx : max (-2 : Int) 0 = 0 := by decide
          have hmx2 : max (IntKind.i64.wrap (-2)) 0 = 0 := by decide
          have hc0 : ¬ c8 = 0 := by omega
          have hA1 : A8.map (fun x => x.add 0) = A8 := by cases A8 with | none => rfl | some a => simp [Addr.add]
          have hclone2 : ∀ (W : World), Fr No w9 W → Calls Tryz.prog 149 #[.slice A8 4 c8] W fun e w' => ∃ A1 c1, e = .returned (.slice A1 4 c1) ∧ Ow (tStt col2) 81 w' (fun i => (col2 i = 5 ∧ i < W.heap.size) ∨ W.heap.size ≤ i) (.slice A1 4 c1) (Led.keep6 (L.sts ++ [⟨linkD L.last.dig (digT T) rb, L.last.dig, sha rb, T⟩])) ∧ Fr No W w' ∧ ∀ k, (Value.slice A1 4 c1).ownBlock = some k → W.heap.size ≤ k := hclone
          have HC := Lib.hid hclone2
          clear hclone2 hclone hcap hlo hidx hsl0 hsl6 hpq
          go_wp2_with fail
          refine wp_region_tail 16 (fun w' => w'.cell? ⟨lb, 4, none⟩ = some (.slice A8 (3 + 1) c8)) (by kernel_rfl) k4 (fun hHeld => ?_)
          refine WalkTail.take (i := 0) (v := ?vq3x0) rfl (by kernel_rfl) (fun _ _ _ h => h) (Or.inl ⟨by rfl, ?hyq3x0⟩) (by assumption) ?_
          case hyq3x0 => (intro w hSw; (try dsimp only at hSw); go_simp; try with_reducible rfl)
          (try simp only [Act.put, List.setIfInBounds_toArray, List.set_cons_zero, List.set_cons_succ])
          refine WalkTail.take (i := 1) (v := ?vq3x1) rfl (by kernel_rfl) (fun _ _ _ h => h) (Or.inl ⟨by rfl, ?hyq3x1⟩) (by assumption) ?_
          case hyq3x1 => (intro w hSw; (try dsimp only at hSw); go_simp; try with_reducible rfl)
          (try simp only [Act.put, List.setIfInBounds_toArray, List.set_cons_zero, List.set_cons_succ])
          refine WalkTail.take (i := 2) (v := ?vq3x2) rfl (by kernel_rfl) (fun _ _ _ h => h) (Or.inl ⟨by rfl, ?hyq3x2⟩) (by assumption) ?_
          case hyq3x2 => (intro w hSw; (try dsimp only at hSw); go_simp; try with_reducible rfl)
          (try simp only [Act.put, List.setIfInBounds_toArray, List.set_cons_zero, List.set_cons_succ])
          refine WalkTail.take (i := 3) (v := ?vq3x3) rfl (by kernel_rfl) (fun _ _ _ h => h) (Or.inl ⟨by rfl, ?hyq3x3⟩) (by assumption) ?_
          case hyq3x3 => (intro w hSw; (try dsimp only at hSw); go_simp; try with_reducible rfl)
          (try simp only [Act.put, List.setIfInBounds_toArray, List.set_cons_zero, List.set_cons_succ])
          refine WalkTail.take (i := 4) (v := ?vq3x4) rfl (by kernel_rfl) (fun _ _ _ h => h) (Or.inl ⟨by rfl, ?hyq3x4⟩) (by assumption) ?_
          case hyq3x4 => (intro w hSw; (try dsimp only at hSw); go_simp; try with_reducible rfl)
          (try simp only [Act.put, List.setIfInBounds_toArray, List.set_cons_zero, List.set_cons_succ])
          refine WalkTail.take (i := 5) (v := ?vq3x5) rfl (by kernel_rfl) (fun _ _ _ h => h) (Or.inl ⟨by rfl, ?hyq3x5⟩) (by assumption) ?_
          case hyq3x5 => (intro w hSw; (try dsimp only at hSw); go_simp; try with_reducible rfl)
          (try simp only [Act.put, List.setIfInBounds_toArray, List.set_cons_zero, List.set_cons_succ])
          refine WalkTail.take (i := 6) (v := ?vq3x6) rfl (by kernel_rfl) (fun _ _ _ h => h) (Or.inl ⟨by rfl, ?hyq3x6⟩) (by assumption) ?_
          case hyq3x6 => (intro w hSw; (try dsimp only at hSw); go_simp; try with_reducible rfl)
          (try simp only [Act.put, List.setIfInBounds_toArray, List.set_cons_zero, List.set_cons_succ])
          refine WalkTail.take (i := 7) (v := ?vq3x7) rfl (by kernel_rfl) (fun _ _ _ h => h) (Or.inl ⟨by rfl, ?hyq3x7⟩) (by assumption) ?_
          case hyq3x7 => (intro w hSw; (try dsimp only at hSw); go_simp; try with_reducible rfl)
          (try simp only [Act.put, List.setIfInBounds_toArray, List.set_cons_zero, List.set_cons_succ])
          refine WalkTail.take (i := 8) (v := ?vq3x8) rfl (by kernel_rfl) (fun _ _ _ h => h) (Or.inl ⟨by rfl, ?hyq3x8⟩) (by assumption) ?_
          case hyq3x8 => (intro w hSw; (try dsimp only at hSw); go_simp; try with_reducible rfl)
          (try simp only [Act.put, List.setIfInBounds_toArray, List.set_cons_zero, List.set_cons_succ])
          refine WalkTail.take (i := 9) (v := ?vq3x9) rfl (by kernel_rfl) (fun _ _ _ h => h) (Or.inl ⟨by rfl, ?hyq3x9⟩) (by assumption) ?_
          case hyq3x9 => (intro w hSw; (try dsimp only at hSw); go_simp; try with_reducible rfl)
          (try simp only [Act.put, List.setIfInBounds_toArray, List.set_cons_zero, List.set_cons_succ])
          refine WalkTail.take (i := 10) (v := ?vq3x10) rfl (by kernel_rfl) (fun _ _ _ h => h) (Or.inl ⟨by rfl, ?hyq3x10⟩) (by assumption) ?_
          case hyq3x10 => (intro w hSw; (try dsimp only at hSw); go_simp; try with_reducible rfl)
          (try simp only [Act.put, List.setIfInBounds_toArray, List.set_cons_zero, List.set_cons_succ])
          refine WalkTail.take (i := 11) (v := ?vq3x11) rfl (by kernel_rfl) (fun _ _ _ h => h) (Or.inl ⟨by rfl, ?hyq3x11⟩) (by assumption) ?_
          case hyq3x11 => (intro w hSw; (try dsimp only at hSw); go_simp; try with_reducible rfl)
          (try simp only [Act.put, List.setIfInBounds_toArray, List.set_cons_zero, List.set_cons_succ])
          refine WalkTail.take (i := 12) (v := ?vq3x12) rfl (by kernel_rfl) (fun _ _ _ h => h) (Or.inl ⟨by rfl, ?hyq3x12⟩) (by assumption) ?_
          case hyq3x12 => (intro w hSw; (try dsimp only at hSw); go_simp; try with_reducible rfl)
          (try simp only [Act.put, List.setIfInBounds_toArray, List.set_cons_zero, List.set_cons_succ])
          refine WalkTail.one (i := 13) rfl (by kernel_rfl) (by decide) (fun K hK => ?_)
          go_simp
          go_at_call 149; (try simp only [hmx, show (((0 : Int)).toNat) = 0 from rfl]); refine (HC.out _ (by repeat (first | exact Fr.refl _ _ | apply Fr.drew | apply Fr.drewN))).mono ?_; rintro e10 w10 ⟨A10, c10, rfl, ho10, hf10, hw10⟩
          have hg10 : Fr No w9 w10 := Fr.next (by repeat (first | exact Fr.refl No w9 | apply Fr.drew | apply Fr.drewN)) hf10 (fun _ _ f => f.elim)
          have k4 := blk_cell (hg10.blk HB9.out (fun f => f)) 4
          have y4 := blk_frozen (hg10.blk HB9.out (fun f => f)) 4
          have H10 := Lib.hid (And.intro ho10 (And.intro hg10 hw10))
          clear ho10 hf10 hw10 hg10
          go_wp2_with fail
          refine hK.out _ _ ?_ (fun hHeld => ?_)
          · exact k4
          clear hK K
          (try simp only [Act.put, List.setIfInBounds_toArray, List.set_cons_zero, List.set_cons_succ])
          refine WalkTail.take (i := 14) (v := ?vq3x14) rfl (by kernel_rfl) (fun _ _ _ h => h) (Or.inl ⟨by rfl, ?hyq3x14⟩) (by assumption) ?_
          case hyq3x14 => (intro w hSw; (try dsimp only at hSw); go_simp; try with_reducible rfl)
          (try simp only [Act.put, List.setIfInBounds_toArray, List.set_cons_zero, List.set_cons_succ])
          refine WalkTail.take (i := 15) (v := ?vq3x15) rfl (by kernel_rfl) (fun _ _ _ h => h) (Or.inl ⟨by rfl, ?hyq3x15⟩) (by assumption) ?_
          case hyq3x15 => (intro w hSw; (try dsimp only at hSw); go_simp; try with_reducible rfl)
          (try simp only [Act.put, List.setIfInBounds_toArray, List.set_cons_zero, List.set_cons_succ])
          refine WalkTail.last rfl (by kernel_rfl) (by kernel_rfl) (fun K hK => ?_)
          go_simp
          refine hK.out _ _ ?_
          all_goals
            go_end0
            exact ⟨rfl, (HFIN.out _ _ _ _ H10.out.1 H10.out.2.1 H10.out.2.2).2⟩
        · obtain rfl : lo = 0 := by omega
          have hA0 : A8.map (·.add (0 * 4)) = A8 := by cases A8 with | none => rfl | some a => simp [Addr.add]
          rw [hA0] at hclone
          clear hA0
          have hcap2 : (5 : Int) ≤ (c8 : Int) := by have : 4 + 1 ≤ c8 := hcap; omega
          have hmx : max (-1 : Int) 0 = 0 := by decide
          have hmx2 : max (IntKind.i64.wrap (-1)) 0 = 0 := by decide
          have hc0 : ¬ c8 = 0 := by omega
          have hA1 : A8.map (fun x => x.add 0) = A8 := by cases A8 with | none => rfl | some a => simp [Addr.add]
          have hclone2 : ∀ (W : World), Fr No w9 W → Calls Tryz.prog 149 #[.slice A8 5 c8] W fun e w' => ∃ A1 c1, e = .returned (.slice A1 5 c1) ∧ Ow (tStt col2) 81 w' (fun i => (col2 i = 5 ∧ i < W.heap.size) ∨ W.heap.size ≤ i) (.slice A1 5 c1) (Led.keep6 (L.sts ++ [⟨linkD L.last.dig (digT T) rb, L.last.dig, sha rb, T⟩])) ∧ Fr No W w' ∧ ∀ k, (Value.slice A1 5 c1).ownBlock = some k → W.heap.size ≤ k := hclone
          have HC := Lib.hid hclone2
          clear hclone2 hclone hcap hlo hidx hsl0 hsl6 hpq
          go_wp2_with fail
          refine wp_region_tail 16 (fun w' => w'.cell? ⟨lb, 4, none⟩ = some (.slice A8 (4 + 1) c8)) (by kernel_rfl) k4 (fun hHeld => ?_)
          refine WalkTail.take (i := 0) (v := ?vq4x0) rfl (by kernel_rfl) (fun _ _ _ h => h) (Or.inl ⟨by rfl, ?hyq4x0⟩) (by assumption) ?_
          case hyq4x0 => (intro w hSw; (try dsimp only at hSw); go_simp; try with_reducible rfl)
          (try simp only [Act.put, List.setIfInBounds_toArray, List.set_cons_zero, List.set_cons_succ])
          refine WalkTail.take (i := 1) (v := ?vq4x1) rfl (by kernel_rfl) (fun _ _ _ h => h) (Or.inl ⟨by rfl, ?hyq4x1⟩) (by assumption) ?_
          case hyq4x1 => (intro w hSw; (try dsimp only at hSw); go_simp; try with_reducible rfl)
          (try simp only [Act.put, List.setIfInBounds_toArray, List.set_cons_zero, List.set_cons_succ])
          refine WalkTail.take (i := 2) (v := ?vq4x2) rfl (by kernel_rfl) (fun _ _ _ h => h) (Or.inl ⟨by rfl, ?hyq4x2⟩) (by assumption) ?_
          case hyq4x2 => (intro w hSw; (try dsimp only at hSw); go_simp; try with_reducible rfl)
          (try simp only [Act.put, List.setIfInBounds_toArray, List.set_cons_zero, List.set_cons_succ])
          refine WalkTail.take (i := 3) (v := ?vq4x3) rfl (by kernel_rfl) (fun _ _ _ h => h) (Or.inl ⟨by rfl, ?hyq4x3⟩) (by assumption) ?_
          case hyq4x3 => (intro w hSw; (try dsimp only at hSw); go_simp; try with_reducible rfl)
          (try simp only [Act.put, List.setIfInBounds_toArray, List.set_cons_zero, List.set_cons_succ])
          refine WalkTail.take (i := 4) (v := ?vq4x4) rfl (by kernel_rfl) (fun _ _ _ h => h) (Or.inl ⟨by rfl, ?hyq4x4⟩) (by assumption) ?_
          case hyq4x4 => (intro w hSw; (try dsimp only at hSw); go_simp; try with_reducible rfl)
          (try simp only [Act.put, List.setIfInBounds_toArray, List.set_cons_zero, List.set_cons_succ])
          refine WalkTail.take (i := 5) (v := ?vq4x5) rfl (by kernel_rfl) (fun _ _ _ h => h) (Or.inl ⟨by rfl, ?hyq4x5⟩) (by assumption) ?_
          case hyq4x5 => (intro w hSw; (try dsimp only at hSw); go_simp; try with_reducible rfl)
          (try simp only [Act.put, List.setIfInBounds_toArray, List.set_cons_zero, List.set_cons_succ])
          refine WalkTail.take (i := 6) (v := ?vq4x6) rfl (by kernel_rfl) (fun _ _ _ h => h) (Or.inl ⟨by rfl, ?hyq4x6⟩) (by assumption) ?_
          case hyq4x6 => (intro w hSw; (try dsimp only at hSw); go_simp; try with_reducible rfl)
          (try simp only [Act.put, List.setIfInBounds_toArray, List.set_cons_zero, List.set_cons_succ])
          refine WalkTail.take (i := 7) (v := ?vq4x7) rfl (by kernel_rfl) (fun _ _ _ h => h) (Or.inl ⟨by rfl, ?hyq4x7⟩) (by assumption) ?_
          case hyq4x7 => (intro w hSw; (try dsimp only at hSw); go_simp; try with_reducible rfl)
          (try simp only [Act.put, List.setIfInBounds_toArray, List.set_cons_zero, List.set_cons_succ])
          refine WalkTail.take (i := 8) (v := ?vq4x8) rfl (by kernel_rfl) (fun _ _ _ h => h) (Or.inl ⟨by rfl, ?hyq4x8⟩) (by assumption) ?_
          case hyq4x8 => (intro w hSw; (try dsimp only at hSw); go_simp; try with_reducible rfl)
          (try simp only [Act.put, List.setIfInBounds_toArray, List.set_cons_zero, List.set_cons_succ])
          refine WalkTail.take (i := 9) (v := ?vq4x9) rfl (by kernel_rfl) (fun _ _ _ h => h) (Or.inl ⟨by rfl, ?hyq4x9⟩) (by assumption) ?_
          case hyq4x9 => (intro w hSw; (try dsimp only at hSw); go_simp; try with_reducible rfl)
          (try simp only [Act.put, List.setIfInBounds_toArray, List.set_cons_zero, List.set_cons_succ])
          refine WalkTail.take (i := 10) (v := ?vq4x10) rfl (by kernel_rfl) (fun _ _ _ h => h) (Or.inl ⟨by rfl, ?hyq4x10⟩) (by assumption) ?_
          case hyq4x10 => (intro w hSw; (try dsimp only at hSw); go_simp; try with_reducible rfl)
          (try simp only [Act.put, List.setIfInBounds_toArray, List.set_cons_zero, List.set_cons_succ])
          refine WalkTail.take (i := 11) (v := ?vq4x11) rfl (by kernel_rfl) (fun _ _ _ h => h) (Or.inl ⟨by rfl, ?hyq4x11⟩) (by assumption) ?_
          case hyq4x11 => (intro w hSw; (try dsimp only at hSw); go_simp; try with_reducible rfl)
          (try simp only [Act.put, List.setIfInBounds_toArray, List.set_cons_zero, List.set_cons_succ])
          refine WalkTail.take (i := 12) (v := ?vq4x12) rfl (by kernel_rfl) (fun _ _ _ h => h) (Or.inl ⟨by rfl, ?hyq4x12⟩) (by assumption) ?_
          case hyq4x12 => (intro w hSw; (try dsimp only at hSw); go_simp; try with_reducible rfl)
          (try simp only [Act.put, List.setIfInBounds_toArray, List.set_cons_zero, List.set_cons_succ])
          refine WalkTail.one (i := 13) rfl (by kernel_rfl) (by decide) (fun K hK => ?_)
          go_simp
          go_at_call 149; (try simp only [hmx, show (((0 : Int)).toNat) = 0 from rfl]); refine (HC.out _ (by repeat (first | exact Fr.refl _ _ | apply Fr.drew | apply Fr.drewN))).mono ?_; rintro e10 w10 ⟨A10, c10, rfl, ho10, hf10, hw10⟩
          have hg10 : Fr No w9 w10 := Fr.next (by repeat (first | exact Fr.refl No w9 | apply Fr.drew | apply Fr.drewN)) hf10 (fun _ _ f => f.elim)
          have k4 := blk_cell (hg10.blk HB9.out (fun f => f)) 4
          have y4 := blk_frozen (hg10.blk HB9.out (fun f => f)) 4
          have H10 := Lib.hid (And.intro ho10 (And.intro hg10 hw10))
          clear ho10 hf10 hw10 hg10
          go_wp2_with fail
          refine hK.out _ _ ?_ (fun hHeld => ?_)
          · exact k4
          clear hK K
          (try simp only [Act.put, List.setIfInBounds_toArray, List.set_cons_zero, List.set_cons_succ])
          refine WalkTail.take (i := 14) (v := ?vq4x14) rfl (by kernel_rfl) (fun _ _ _ h => h) (Or.inl ⟨by rfl, ?hyq4x14⟩) (by assumption) ?_
          case hyq4x14 => (intro w hSw; (try dsimp only at hSw); go_simp; try with_reducible rfl)
          (try simp only [Act.put, List.setIfInBounds_toArray, List.set_cons_zero, List.set_cons_succ])
          refine WalkTail.take (i := 15) (v := ?vq4x15) rfl (by kernel_rfl) (fun _ _ _ h => h) (Or.inl ⟨by rfl, ?hyq4x15⟩) (by assumption) ?_
          case hyq4x15 => (intro w hSw; (try dsimp only at hSw); go_simp; try with_reducible rfl)
          (try simp only [Act.put, List.setIfInBounds_toArray, List.set_cons_zero, List.set_cons_succ])
          refine WalkTail.last rfl (by kernel_rfl) (by kernel_rfl) (fun K hK => ?_)
          go_simp
          refine hK.out _ _ ?_
          all_goals
            go_end0
            exact ⟨rfl, (HFIN.out _ _ _ _ H10.out.1 H10.out.2.1 H10.out.2.2).2⟩
        · obtain rfl : lo = 0 := by omega
          have hA0 : A8.map (·.add (0 * 4)) = A8 := by cases A8 with | none => rfl | some a => simp [Addr.add]
          rw [hA0] at hclone
          clear hA0
          have hcap2 : (6 : Int) ≤ (c8 : Int) := by have : 5 + 1 ≤ c8 := hcap; omega
          have hmx : max (0 : Int) 0 = 0 := by decide
          have hmx2 : max (IntKind.i64.wrap (0)) 0 = 0 := by decide
          have hc0 : ¬ c8 = 0 := by omega
          have hA1 : A8.map (fun x => x.add 0) = A8 := by cases A8 with | none => rfl | some a => simp [Addr.add]
          have hclone2 : ∀ (W : World), Fr No w9 W → Calls Tryz.prog 149 #[.slice A8 6 c8] W fun e w' => ∃ A1 c1, e = .returned (.slice A1 6 c1) ∧ Ow (tStt col2) 81 w' (fun i => (col2 i = 5 ∧ i < W.heap.size) ∨ W.heap.size ≤ i) (.slice A1 6 c1) (Led.keep6 (L.sts ++ [⟨linkD L.last.dig (digT T) rb, L.last.dig, sha rb, T⟩])) ∧ Fr No W w' ∧ ∀ k, (Value.slice A1 6 c1).ownBlock = some k → W.heap.size ≤ k := hclone
          have HC := Lib.hid hclone2
          clear hclone2 hclone hcap hlo hidx hsl0 hsl6 hpq
          go_wp2_with fail
          refine wp_region_tail 16 (fun w' => w'.cell? ⟨lb, 4, none⟩ = some (.slice A8 (5 + 1) c8)) (by kernel_rfl) k4 (fun hHeld => ?_)
          refine WalkTail.take (i := 0) (v := ?vq5x0) rfl (by kernel_rfl) (fun _ _ _ h => h) (Or.inl ⟨by rfl, ?hyq5x0⟩) (by assumption) ?_
          case hyq5x0 => (intro w hSw; (try dsimp only at hSw); go_simp; try with_reducible rfl)
          (try simp only [Act.put, List.setIfInBounds_toArray, List.set_cons_zero, List.set_cons_succ])
          refine WalkTail.take (i := 1) (v := ?vq5x1) rfl (by kernel_rfl) (fun _ _ _ h => h) (Or.inl ⟨by rfl, ?hyq5x1⟩) (by assumption) ?_
          case hyq5x1 => (intro w hSw; (try dsimp only at hSw); go_simp; try with_reducible rfl)
          (try simp only [Act.put, List.setIfInBounds_toArray, List.set_cons_zero, List.set_cons_succ])
          refine WalkTail.take (i := 2) (v := ?vq5x2) rfl (by kernel_rfl) (fun _ _ _ h => h) (Or.inl ⟨by rfl, ?hyq5x2⟩) (by assumption) ?_
          case hyq5x2 => (intro w hSw; (try dsimp only at hSw); go_simp; try with_reducible rfl)
          (try simp only [Act.put, List.setIfInBounds_toArray, List.set_cons_zero, List.set_cons_succ])
          refine WalkTail.take (i := 3) (v := ?vq5x3) rfl (by kernel_rfl) (fun _ _ _ h => h) (Or.inl ⟨by rfl, ?hyq5x3⟩) (by assumption) ?_
          case hyq5x3 => (intro w hSw; (try dsimp only at hSw); go_simp; try with_reducible rfl)
          (try simp only [Act.put, List.setIfInBounds_toArray, List.set_cons_zero, List.set_cons_succ])
          refine WalkTail.take (i := 4) (v := ?vq5x4) rfl (by kernel_rfl) (fun _ _ _ h => h) (Or.inl ⟨by rfl, ?hyq5x4⟩) (by assumption) ?_
          case hyq5x4 => (intro w hSw; (try dsimp only at hSw); go_simp; try with_reducible rfl)
          (try simp only [Act.put, List.setIfInBounds_toArray, List.set_cons_zero, List.set_cons_succ])
          refine WalkTail.take (i := 5) (v := ?vq5x5) rfl (by kernel_rfl) (fun _ _ _ h => h) (Or.inl ⟨by rfl, ?hyq5x5⟩) (by assumption) ?_
          case hyq5x5 => (intro w hSw; (try dsimp only at hSw); go_simp; try with_reducible rfl)
          (try simp only [Act.put, List.setIfInBounds_toArray, List.set_cons_zero, List.set_cons_succ])
          refine WalkTail.take (i := 6) (v := ?vq5x6) rfl (by kernel_rfl) (fun _ _ _ h => h) (Or.inl ⟨by rfl, ?hyq5x6⟩) (by assumption) ?_
          case hyq5x6 => (intro w hSw; (try dsimp only at hSw); go_simp; try with_reducible rfl)
          (try simp only [Act.put, List.setIfInBounds_toArray, List.set_cons_zero, List.set_cons_succ])
          refine WalkTail.take (i := 7) (v := ?vq5x7) rfl (by kernel_rfl) (fun _ _ _ h => h) (Or.inl ⟨by rfl, ?hyq5x7⟩) (by assumption) ?_
          case hyq5x7 => (intro w hSw; (try dsimp only at hSw); go_simp; try with_reducible rfl)
          (try simp only [Act.put, List.setIfInBounds_toArray, List.set_cons_zero, List.set_cons_succ])
          refine WalkTail.take (i := 8) (v := ?vq5x8) rfl (by kernel_rfl) (fun _ _ _ h => h) (Or.inl ⟨by rfl, ?hyq5x8⟩) (by assumption) ?_
          case hyq5x8 => (intro w hSw; (try dsimp only at hSw); go_simp; try with_reducible rfl)
          (try simp only [Act.put, List.setIfInBounds_toArray, List.set_cons_zero, List.set_cons_succ])
          refine WalkTail.take (i := 9) (v := ?vq5x9) rfl (by kernel_rfl) (fun _ _ _ h => h) (Or.inl ⟨by rfl, ?hyq5x9⟩) (by assumption) ?_
          case hyq5x9 => (intro w hSw; (try dsimp only at hSw); go_simp; try with_reducible rfl)
          (try simp only [Act.put, List.setIfInBounds_toArray, List.set_cons_zero, List.set_cons_succ])
          refine WalkTail.take (i := 10) (v := ?vq5x10) rfl (by kernel_rfl) (fun _ _ _ h => h) (Or.inl ⟨by rfl, ?hyq5x10⟩) (by assumption) ?_
          case hyq5x10 => (intro w hSw; (try dsimp only at hSw); go_simp; try with_reducible rfl)
          (try simp only [Act.put, List.setIfInBounds_toArray, List.set_cons_zero, List.set_cons_succ])
          refine WalkTail.take (i := 11) (v := ?vq5x11) rfl (by kernel_rfl) (fun _ _ _ h => h) (Or.inl ⟨by rfl, ?hyq5x11⟩) (by assumption) ?_
          case hyq5x11 => (intro w hSw; (try dsimp only at hSw); go_simp; try with_reducible rfl)
          (try simp only [Act.put, List.setIfInBounds_toArray, List.set_cons_zero, List.set_cons_succ])
          refine WalkTail.take (i := 12) (v := ?vq5x12) rfl (by kernel_rfl) (fun _ _ _ h => h) (Or.inl ⟨by rfl, ?hyq5x12⟩) (by assumption) ?_
          case hyq5x12 => (intro w hSw; (try dsimp only at hSw); go_simp; try with_reducible rfl)
          (try simp only [Act.put, List.setIfInBounds_toArray, List.set_cons_zero, List.set_cons_succ])
          refine WalkTail.one (i := 13) rfl (by kernel_rfl) (by decide) (fun K hK => ?_)
          go_simp
          go_at_call 149; (try simp only [hmx, show (((0 : Int)).toNat) = 0 from rfl]); refine (HC.out _ (by repeat (first | exact Fr.refl _ _ | apply Fr.drew | apply Fr.drewN))).mono ?_; rintro e10 w10 ⟨A10, c10, rfl, ho10, hf10, hw10⟩
          have hg10 : Fr No w9 w10 := Fr.next (by repeat (first | exact Fr.refl No w9 | apply Fr.drew | apply Fr.drewN)) hf10 (fun _ _ f => f.elim)
          have k4 := blk_cell (hg10.blk HB9.out (fun f => f)) 4
          have y4 := blk_frozen (hg10.blk HB9.out (fun f => f)) 4
          have H10 := Lib.hid (And.intro ho10 (And.intro hg10 hw10))
          clear ho10 hf10 hw10 hg10
          go_wp2_with fail
          refine hK.out _ _ ?_ (fun hHeld => ?_)
          · exact k4
          clear hK K
          (try simp only [Act.put, List.setIfInBounds_toArray, List.set_cons_zero, List.set_cons_succ])
          refine WalkTail.take (i := 14) (v := ?vq5x14) rfl (by kernel_rfl) (fun _ _ _ h => h) (Or.inl ⟨by rfl, ?hyq5x14⟩) (by assumption) ?_
          case hyq5x14 => (intro w hSw; (try dsimp only at hSw); go_simp; try with_reducible rfl)
          (try simp only [Act.put, List.setIfInBounds_toArray, List.set_cons_zero, List.set_cons_succ])
          refine WalkTail.take (i := 15) (v := ?vq5x15) rfl (by kernel_rfl) (fun _ _ _ h => h) (Or.inl ⟨by rfl, ?hyq5x15⟩) (by assumption) ?_
          case hyq5x15 => (intro w hSw; (try dsimp only at hSw); go_simp; try with_reducible rfl)
          (try simp only [Act.put, List.setIfInBounds_toArray, List.set_cons_zero, List.set_cons_succ])
          refine WalkTail.last rfl (by kernel_rfl) (by kernel_rfl) (fun K hK => ?_)
          go_simp
          refine hK.out _ _ ?_
          all_goals
            go_end0
            exact ⟨rfl, (HFIN.out _ _ _ _ H10.out.1 H10.out.2.1 H10.out.2.2).2⟩
        · obtain rfl : lo = 1 := by omega
          have hcap2 : (7 : Int) ≤ (c8 : Int) := by have : 6 + 1 ≤ c8 := hcap; omega
          have hmx : max (1 : Int) 0 = 1 := by decide
          have hmx2 : max (IntKind.i64.wrap (1)) 0 = 1 := by decide
          have hc0 : ¬ c8 = 1 := by omega
          have hclone2 : ∀ (W : World), Fr No w9 W → Calls Tryz.prog 149 #[.slice (A8.map (fun x => x.add 4)) 6 (c8 - 1)] W fun e w' => ∃ A1 c1, e = .returned (.slice A1 6 c1) ∧ Ow (tStt col2) 81 w' (fun i => (col2 i = 5 ∧ i < W.heap.size) ∨ W.heap.size ≤ i) (.slice A1 6 c1) (Led.keep6 (L.sts ++ [⟨linkD L.last.dig (digT T) rb, L.last.dig, sha rb, T⟩])) ∧ Fr No W w' ∧ ∀ k, (Value.slice A1 6 c1).ownBlock = some k → W.heap.size ≤ k := hclone
          have HC := Lib.hid hclone2
          clear hclone2 hclone hcap hlo hidx hsl0 hsl6 hpq
          go_wp2_with fail
          refine wp_region_tail 16 (fun w' => w'.cell? ⟨lb, 4, none⟩ = some (.slice A8 (6 + 1) c8)) (by kernel_rfl) k4 (fun hHeld => ?_)
          refine WalkTail.take (i := 0) (v := ?vq6x0) rfl (by kernel_rfl) (fun _ _ _ h => h) (Or.inl ⟨by rfl, ?hyq6x0⟩) (by assumption) ?_
          case hyq6x0 => (intro w hSw; (try dsimp only at hSw); go_simp; try with_reducible rfl)
          (try simp only [Act.put, List.setIfInBounds_toArray, List.set_cons_zero, List.set_cons_succ])
          refine WalkTail.take (i := 1) (v := ?vq6x1) rfl (by kernel_rfl) (fun _ _ _ h => h) (Or.inl ⟨by rfl, ?hyq6x1⟩) (by assumption) ?_
          case hyq6x1 => (intro w hSw; (try dsimp only at hSw); go_simp; try with_reducible rfl)
          (try simp only [Act.put, List.setIfInBounds_toArray, List.set_cons_zero, List.set_cons_succ])
          refine WalkTail.take (i := 2) (v := ?vq6x2) rfl (by kernel_rfl) (fun _ _ _ h => h) (Or.inl ⟨by rfl, ?hyq6x2⟩) (by assumption) ?_
          case hyq6x2 => (intro w hSw; (try dsimp only at hSw); go_simp; try with_reducible rfl)
          (try simp only [Act.put, List.setIfInBounds_toArray, List.set_cons_zero, List.set_cons_succ])
          refine WalkTail.take (i := 3) (v := ?vq6x3) rfl (by kernel_rfl) (fun _ _ _ h => h) (Or.inl ⟨by rfl, ?hyq6x3⟩) (by assumption) ?_
          case hyq6x3 => (intro w hSw; (try dsimp only at hSw); go_simp; try with_reducible rfl)
          (try simp only [Act.put, List.setIfInBounds_toArray, List.set_cons_zero, List.set_cons_succ])
          refine WalkTail.take (i := 4) (v := ?vq6x4) rfl (by kernel_rfl) (fun _ _ _ h => h) (Or.inl ⟨by rfl, ?hyq6x4⟩) (by assumption) ?_
          case hyq6x4 => (intro w hSw; (try dsimp only at hSw); go_simp; try with_reducible rfl)
          (try simp only [Act.put, List.setIfInBounds_toArray, List.set_cons_zero, List.set_cons_succ])
          refine WalkTail.take (i := 5) (v := ?vq6x5) rfl (by kernel_rfl) (fun _ _ _ h => h) (Or.inl ⟨by rfl, ?hyq6x5⟩) (by assumption) ?_
          case hyq6x5 => (intro w hSw; (try dsimp only at hSw); go_simp; try with_reducible rfl)
          (try simp only [Act.put, List.setIfInBounds_toArray, List.set_cons_zero, List.set_cons_succ])
          refine WalkTail.take (i := 6) (v := ?vq6x6) rfl (by kernel_rfl) (fun _ _ _ h => h) (Or.inl ⟨by rfl, ?hyq6x6⟩) (by assumption) ?_
          case hyq6x6 => (intro w hSw; (try dsimp only at hSw); go_simp; try with_reducible rfl)
          (try simp only [Act.put, List.setIfInBounds_toArray, List.set_cons_zero, List.set_cons_succ])
          refine WalkTail.take (i := 7) (v := ?vq6x7) rfl (by kernel_rfl) (fun _ _ _ h => h) (Or.inl ⟨by rfl, ?hyq6x7⟩) (by assumption) ?_
          case hyq6x7 => (intro w hSw; (try dsimp only at hSw); go_simp; try with_reducible rfl)
          (try simp only [Act.put, List.setIfInBounds_toArray, List.set_cons_zero, List.set_cons_succ])
          refine WalkTail.take (i := 8) (v := ?vq6x8) rfl (by kernel_rfl) (fun _ _ _ h => h) (Or.inl ⟨by rfl, ?hyq6x8⟩) (by assumption) ?_
          case hyq6x8 => (intro w hSw; (try dsimp only at hSw); go_simp; try with_reducible rfl)
          (try simp only [Act.put, List.setIfInBounds_toArray, List.set_cons_zero, List.set_cons_succ])
          refine WalkTail.take (i := 9) (v := ?vq6x9) rfl (by kernel_rfl) (fun _ _ _ h => h) (Or.inl ⟨by rfl, ?hyq6x9⟩) (by assumption) ?_
          case hyq6x9 => (intro w hSw; (try dsimp only at hSw); go_simp; try with_reducible rfl)
          (try simp only [Act.put, List.setIfInBounds_toArray, List.set_cons_zero, List.set_cons_succ])
          refine WalkTail.take (i := 10) (v := ?vq6x10) rfl (by kernel_rfl) (fun _ _ _ h => h) (Or.inl ⟨by rfl, ?hyq6x10⟩) (by assumption) ?_
          case hyq6x10 => (intro w hSw; (try dsimp only at hSw); go_simp; try with_reducible rfl)
          (try simp only [Act.put, List.setIfInBounds_toArray, List.set_cons_zero, List.set_cons_succ])
          refine WalkTail.take (i := 11) (v := ?vq6x11) rfl (by kernel_rfl) (fun _ _ _ h => h) (Or.inl ⟨by rfl, ?hyq6x11⟩) (by assumption) ?_
          case hyq6x11 => (intro w hSw; (try dsimp only at hSw); go_simp; try with_reducible rfl)
          (try simp only [Act.put, List.setIfInBounds_toArray, List.set_cons_zero, List.set_cons_succ])
          refine WalkTail.take (i := 12) (v := ?vq6x12) rfl (by kernel_rfl) (fun _ _ _ h => h) (Or.inl ⟨by rfl, ?hyq6x12⟩) (by assumption) ?_
          case hyq6x12 => (intro w hSw; (try dsimp only at hSw); go_simp; try with_reducible rfl)
          (try simp only [Act.put, List.setIfInBounds_toArray, List.set_cons_zero, List.set_cons_succ])
          refine WalkTail.one (i := 13) rfl (by kernel_rfl) (by decide) (fun K hK => ?_)
          go_simp
          go_at_call 149; (try simp only [hmx, show (((1 : Int)).toNat) = 1 from rfl]); refine (HC.out _ (by repeat (first | exact Fr.refl _ _ | apply Fr.drew | apply Fr.drewN))).mono ?_; rintro e10 w10 ⟨A10, c10, rfl, ho10, hf10, hw10⟩
          have hg10 : Fr No w9 w10 := Fr.next (by repeat (first | exact Fr.refl No w9 | apply Fr.drew | apply Fr.drewN)) hf10 (fun _ _ f => f.elim)
          have k4 := blk_cell (hg10.blk HB9.out (fun f => f)) 4
          have y4 := blk_frozen (hg10.blk HB9.out (fun f => f)) 4
          have H10 := Lib.hid (And.intro ho10 (And.intro hg10 hw10))
          clear ho10 hf10 hw10 hg10
          go_wp2_with fail
          refine hK.out _ _ ?_ (fun hHeld => ?_)
          · exact k4
          clear hK K
          (try simp only [Act.put, List.setIfInBounds_toArray, List.set_cons_zero, List.set_cons_succ])
          refine WalkTail.take (i := 14) (v := ?vq6x14) rfl (by kernel_rfl) (fun _ _ _ h => h) (Or.inl ⟨by rfl, ?hyq6x14⟩) (by assumption) ?_
          case hyq6x14 => (intro w hSw; (try dsimp only at hSw); go_simp; try with_reducible rfl)
          (try simp only [Act.put, List.setIfInBounds_toArray, List.set_cons_zero, List.set_cons_succ])
          refine WalkTail.take (i := 15) (v := ?vq6x15) rfl (by kernel_rfl) (fun _ _ _ h => h) (Or.inl ⟨by rfl, ?hyq6x15⟩) (by assumption) ?_
          case hyq6x15 => (intro w hSw; (try dsimp only at hSw); go_simp; try with_reducible rfl)
          (try simp only [Act.put, List.setIfInBounds_toArray, List.set_cons_zero, List.set_cons_succ])
          refine WalkTail.last rfl (by kernel_rfl) (by kernel_rfl) (fun K hK => ?_)
          go_simp
          refine hK.out _ _ ?_
          all_goals
            go_end0
            exact ⟨rfl, (HFIN.out _ _ _ _ H10.out.1 H10.out.2.1 H10.out.2.2).2⟩
end Go.Proofs.YtlmhphejgahfbaaGreatDoor
