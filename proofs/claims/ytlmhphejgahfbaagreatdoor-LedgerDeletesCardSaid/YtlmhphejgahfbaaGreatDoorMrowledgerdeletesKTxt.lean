/- order.one and value.Encode of nothing and of a text. -/
import Derived.Test.YtlmhphejgahfbaaGreatDoorMrowledgerdeletes35
import Derived.Test.YtlmhphejgahfbaaGreatDoorMrowledgerdeletes23
import Derived.Lib.AppendStr
set_option linter.unusedVariables false
set_option linter.unusedSimpArgs false
namespace Go.Proofs.YtlmhphejgahfbaaGreatDoor
open Go.RowKit

/-! ### Of nothing -/
set_option maxHeartbeats 1000000 in
set_option maxRecDepth 100000 in
theorem one_null {w : World} : Calls Tryz.prog 177 #[vA (0, 0, ⟨#[]⟩)] w (OwnB w (oneB (0, 0, ⟨#[]⟩))) := by
  show Calls _ _ #[.agg #[.int .u8 0, .int .i64 0, .string ⟨#[]⟩]] w (OwnB w [1])
  unfold OwnB
  obtain ⟨W, hW⟩ : ∃ W, W = (w.alloc (.cells #[.int .u8 0, .int .i64 0, .string ⟨#[]⟩] 35)).alloc (.cells #[.int .u8 1] 5) := ⟨_, rfl⟩
  have hOW : Ow Ty.u8 5 W (fun k => w.heap.size ≤ k) (.slice (some ⟨w.heap.size + 1, 0, none⟩) 1 1) [1] := by
    have := ow_new1 (w := w.alloc (.cells #[.int .u8 0, .int .i64 0, .string ⟨#[]⟩] 35)) 1 (x := 1) rfl
    rw [hW]
    rw [World.size_alloc] at this
    exact this.mono fun i hi _ => by omega
  have hfW : Fr No w W := by rw [hW]; exact ((Fr.refl No w).alloc _).alloc _
  have HW := Lib.hid (And.intro hOW hfW)
  clear hOW hfW
  go_enter Tryz.func177, Tryz.ntmps177
  go_wp2_with fail
  rw [← hW]
  clear hW
  go_ret
  exact ⟨_, 1, rfl, HW.out.1, HW.out.2⟩
set_option maxHeartbeats 1000000 in
set_option maxRecDepth 100000 in
theorem enc_null {w : World} : Calls Tryz.prog 101 #[vA (0, 0, ⟨#[]⟩)] w (OwnB w (encB (0, 0, ⟨#[]⟩))) := by
  show Calls _ _ #[.agg #[.int .u8 0, .int .i64 0, .string ⟨#[]⟩]] w (OwnB w [0])
  unfold OwnB
  obtain ⟨W, hW⟩ : ∃ W, W = (w.alloc (.cells #[.int .u8 0, .int .i64 0, .string ⟨#[]⟩] 35)).alloc (.cells #[.int .u8 0] 5) := ⟨_, rfl⟩
  have hOW : Ow Ty.u8 5 W (fun k => w.heap.size ≤ k) (.slice (some ⟨w.heap.size + 1, 0, none⟩) 1 1) [0] := by
    have := ow_new1 (w := w.alloc (.cells #[.int .u8 0, .int .i64 0, .string ⟨#[]⟩] 35)) 0 (x := 0) rfl
    rw [hW]
    rw [World.size_alloc] at this
    exact this.mono fun i hi _ => by omega
  have hfW : Fr No w W := by rw [hW]; exact ((Fr.refl No w).alloc _).alloc _
  have hvW : W.heap[w.heap.size]? = some (.cells #[.int .u8 0, .int .i64 0, .string ⟨#[]⟩] 35 (0, 0)) := by rw [hW]; exact blk_two1 w _ _
  have v0 := blk_cell hvW 0
  simp at v0
  have HW := Lib.hid (And.intro hOW hfW)
  clear hOW hfW hvW
  go_enter Tryz.func101, Tryz.ntmps101
  go_wp2_with fail
  rw [← hW]
  clear hW
  go_wp2_with fail
  go_ret
  exact ⟨_, 1, rfl, HW.out.1, HW.out.2⟩

/-! ### ReplaceAll -/
set_option maxHeartbeats 4000000 in
set_option maxRecDepth 100000 in
theorem replace_none {w : World} {F : Nat → Prop} {a : Addr} {c g1 g2 d1 d2 n : Nat} {l : Bs} (hs : Rd Ty.u8 w F (some a) l) (hn : n = l.length) (hl : l.length ≤ 1000)
    (hcount : Lib.countByte (Lib.bytesOf (l.map fun b => (b.toNat : Int))) (0 : Int).toNat.toUInt8 = 0)
    (h1 : w.cell? ⟨g1, 0, none⟩ = some (.int .u8 0)) :
    Calls Tryz.prog 238 #[.slice (some a) n c, .slice (some ⟨g1, 0, none⟩) 1 d1, .slice (some ⟨g2, 0, none⟩) 2 d2, .int .i64 (-1)] w (OwnB w l) := by
  subst hn
  have hcnt := Tryz.bytes_Count_one_at a l.length c g1 0 d1 (l.map fun b => (b.toNat : Int)) 0 w (by simp) (fun i hi => rd_ints hs i (by omega)) h1
  rw [hcount] at hcnt
  have H := Lib.hid (And.intro hcnt hs)
  obtain ⟨cs, hR, hA⟩ := hs.at
  obtain ⟨A4, c4, w4, hrun, hO4, hg4, _⟩ := run_ow_append (P := Tryz.prog) (W := w) (F := fun i => w.heap.size ≤ i) (ty := 46) (ty' := 46) Ty.u8 Ow.nil (.int .u8 0) 1 Tryz.underlying46 info_u8 rfl (by decide) (by decide) c (ys := l) (hR.imp fun _ _ h => h) hA (by simp; omega)
  simp only [List.length_nil, Nat.zero_add, List.nil_append] at hrun hO4
  have HH := Lib.hid (And.intro hO4 ((Fr.refl No w).grown hg4 fun k hk => by simp [Value.ownBlock] at hk))
  have hl1000 : (l.length : Int) ≤ 1000 := by omega
  clear hcnt hs hcount hO4 hg4
  unfold OwnB
  obtain ⟨n, hn⟩ : ∃ n, l.length = n := ⟨_, rfl⟩
  rw [hn] at H hrun HH hl1000 ⊢
  clear hn
  go_enter Tryz.func238, Tryz.ntmps238
  go_wp2_with fail
  refine H.out.1.mono ?_
  rintro e w ⟨rfl, rfl⟩
  go_wp2_with (at_builtin; refine wpList_plain rfl fun K hK => wp_append_run _ _ _ _ rfl rfl rfl hrun (hK _ _ ?_))
  go_ret
  exact ⟨A4, c4, rfl, HH.out.1.mono fun i hi _ => by rcases hi with hi | hi <;> exact hi, HH.out.2⟩
theorem textOf_bytes {k : Nat} (hk : k ≤ 3) : (k = 0 ∧ keyB (textOf k) = [] ∧ esc (keyB (textOf k)) = []) ∨ (∃ r : Bs, r.length + 1 = k ∧ keyB (textOf k) = 0 :: r ∧ esc (keyB (textOf k)) = 0 :: 255 :: r ∧
    Lib.countByte (Lib.bytesOf (((0 : UInt8) :: r).map fun b => (b.toNat : Int))) (0 : Int).toNat.toUInt8 = 1 ∧ Lib.indexByte (Lib.bytesOf (((0 : UInt8) :: r).map fun b => (b.toNat : Int))) (0 : Int).toNat.toUInt8 = 0) := by
  have : k = 0 ∨ k = 1 ∨ k = 2 ∨ k = 3 := by omega
  rcases this with rfl | rfl | rfl | rfl
  · exact .inl ⟨rfl, by decide, by decide⟩
  · exact .inr ⟨[], rfl, by decide, by decide, by decide, by decide⟩
  · exact .inr ⟨[97], rfl, by decide, by decide, by decide, by decide⟩
  · exact .inr ⟨[97, 98], rfl, by decide, by decide, by decide, by decide⟩
set_option maxHeartbeats 4000000 in
set_option maxRecDepth 100000 in
theorem replace_all {w : World} {F : Nat → Prop} {a : Addr} {c g1 g2 d1 d2 n k : Nat} (hk : k ≤ 3) (hs : Rd Ty.u8 w F (some a) (keyB (textOf k))) (hn : n = (keyB (textOf k)).length) (hc : n ≤ c)
    (h1 : w.cell? ⟨g1, 0, none⟩ = some (.int .u8 0)) (h2 : w.cell? ⟨g2, 0, none⟩ = some (.int .u8 0)) (h3 : w.cell? ⟨g2, 1, none⟩ = some (.int .u8 255)) :
    Calls Tryz.prog 220 #[.slice (some a) n c, .slice (some ⟨g1, 0, none⟩) 1 d1, .slice (some ⟨g2, 0, none⟩) 2 d2] w (OwnB w (esc (keyB (textOf k)))) := by
  have hr : Calls Tryz.prog 238 #[.slice (some a) n c, .slice (some ⟨g1, 0, none⟩) 1 d1, .slice (some ⟨g2, 0, none⟩) 2 d2, .int .i64 (-1)] w (OwnB w (esc (keyB (textOf k)))) := by
    rcases textOf_bytes hk with ⟨h0, e1, e2⟩ | ⟨r, hl, e1, e2, q1, q2⟩
    · rw [e1] at hs hn
      rw [e2]
      exact replace_none hs hn (by simp) (by decide) h1
    · rw [e1] at hs hn
      rw [e2]
      rw [List.length_cons] at hn
      subst hn
      exact replace_one (m := r.length) hs rfl (by omega) q1 q2 h1 h2 h3 hc
  obtain ⟨E, hE⟩ : ∃ E, esc (keyB (textOf k)) = E := ⟨_, rfl⟩
  rw [hE] at hr ⊢
  have H := Lib.hid hr
  clear hr hs hn hc h1 h2 h3 hE hk
  unfold OwnB at H ⊢
  obtain ⟨m, hm⟩ : ∃ m, E.length = m := ⟨_, rfl⟩
  rw [hm] at H ⊢
  clear hm
  go_enter Tryz.func220, Tryz.ntmps220
  go_wp2_with fail
  refine H.out.mono ?_
  rintro e w1 ⟨A1, c1, rfl, ho, hf⟩
  have H1 := Lib.hid (And.intro ho hf)
  clear ho hf
  go_wp2_with fail
  go_ret
  exact ⟨A1, c1, rfl, H1.out.1, H1.out.2⟩
/-! ### A text -/
set_option maxHeartbeats 4000000 in
set_option maxRecDepth 100000 in
theorem one_text {w : World} {k : Nat} (hk : k ≤ 3) : Calls Tryz.prog 177 #[vA (2, 0, textOf k)] w (OwnB w (oneB (2, 0, textOf k))) := by
  have hE20 : (esc (keyB (textOf k))).length ≤ 20 := by
    have : k = 0 ∨ k = 1 ∨ k = 2 ∨ k = 3 := by omega
    rcases this with rfl | rfl | rfl | rfl <;> decide
  have hra := fun (w1 : World) (F : Nat → Prop) (a : Addr) (c g1 g2 d1 d2 n : Nat) (hs : Rd Ty.u8 w1 F (some a) (keyB (textOf k))) (hn : n = (keyB (textOf k)).length) (hc : n ≤ c) (h1 : w1.cell? ⟨g1, 0, none⟩ = some (.int .u8 0)) (h2 : w1.cell? ⟨g2, 0, none⟩ = some (.int .u8 0)) (h3 : w1.cell? ⟨g2, 1, none⟩ = some (.int .u8 255)) =>
    replace_all (d1 := d1) (d2 := d2) hk hs hn hc h1 h2 h3
  have hS3 : (textOf k).size ≤ 3 := by
    have : k = 0 ∨ k = 1 ∨ k = 2 ∨ k = 3 := by omega
    rcases this with rfl | rfl | rfl | rfl <;> decide
  show Calls _ _ #[.agg #[.int .u8 2, .int .i64 0, .string (textOf k)]] w (OwnB w (3 :: (esc (keyB (textOf k)) ++ [0, 1])))
  obtain ⟨S, hS⟩ : ∃ S, textOf k = S := ⟨_, rfl⟩
  rw [hS] at hra hE20 hS3 ⊢
  obtain ⟨E, hE⟩ : ∃ E, esc (keyB S) = E := ⟨_, rfl⟩
  rw [hE] at hra hE20 ⊢
  have HR := Lib.hid (And.intro hra (And.intro hS3 hE20))
  have kc := run_txt
  unfold OwnB
  obtain ⟨m, hm⟩ : ∃ m, (3 :: (E ++ [0, 1]) : Bs).length = m := ⟨_, rfl⟩
  rw [hm]
  have HM := Lib.hid hm
  clear hra hS3 hE20 hE hS hk hm
  go_enter Tryz.func177, Tryz.ntmps177
  go_wp2_with fail
  obtain ⟨V, hV⟩ : ∃ V, V = (w.alloc (.cells #[.int .u8 2, .int .i64 0, .string S] 35)).alloc (.cells #[.int .u8 3] 5) := ⟨_, rfl⟩
  have hOV : Ow Ty.u8 5 V (fun i => w.heap.size ≤ i) (.slice (some ⟨w.heap.size + 1, 0, none⟩) 1 1) [3] := by
    have := ow_new1 (w := w.alloc (.cells #[.int .u8 2, .int .i64 0, .string S] 35)) 3 (x := 3) rfl
    rw [hV]
    rw [World.size_alloc] at this
    exact this.mono fun i hi _ => by omega
  have hfV : Fr No w V := by rw [hV]; exact ((Fr.refl No w).alloc _).alloc _
  have hsV : V.heap.size = w.heap.size + 1 + 1 := by rw [hV]; simp
  rw [← hV, ← hsV]
  clear hV
  obtain ⟨T, hT⟩ : ∃ T, T = txtW V S := ⟨_, rfl⟩
  have hfT : Fr No V T := by rw [hT]; exact txt_fr V S
  have hRT : Rd Ty.u8 T (fun _ => True) (some ⟨V.heap.size, 0, none⟩) (keyB S) := by rw [hT]; exact txt_rd' (Fr.refl No _) (by have := HR.out.2.1; omega)
  rw [← hT]
  have hcT : S.size ≤ txtC V S := grownCap_ge _ _ _ _
  obtain ⟨cT, hcTe⟩ : ∃ cT, txtC V S = cT := ⟨_, rfl⟩
  rw [hcTe] at hcT ⊢
  clear hT hcTe
  obtain ⟨Z, hZ⟩ : ∃ Z, Z = (T.alloc (.cells #[.int .u8 0] 5)).alloc (.cells #[.int .u8 0, .int .u8 255] 5) := ⟨_, rfl⟩
  have hfZ : Fr No T Z := by rw [hZ]; exact ((Fr.refl No T).alloc _).alloc _
  have b1 : Z.heap[T.heap.size]? = some (.cells #[.int .u8 0] 5 (0, 0)) := by rw [hZ]; exact blk_two1 T _ _
  have b2 : Z.heap[T.heap.size + 1]? = some (.cells #[.int .u8 0, .int .u8 255] 5 (0, 0)) := by rw [hZ]; exact blk_two2 T _ _
  rw [← hZ]
  clear hZ
  have hcall := HR.out.1 Z (fun _ => True) ⟨V.heap.size, 0, none⟩ cT T.heap.size (T.heap.size + 1) 1 2 S.size (hRT.fr0 hfZ) (keyB_len S).symm hcT (by rw [blk_cell b1]; rfl) (by rw [blk_cell b2]; rfl) (by rw [blk_cell b2]; rfl)
  refine hcall.mono ?_
  rintro e Y ⟨A2, c2, rfl, hoY, hfY⟩
  have hfVY : Fr No V Y := (hfT.next hfZ (fun _ _ f => f.elim)).next hfY (fun _ _ f => f.elim)
  obtain ⟨cs, hRr, hAA⟩ := (hoY.rd.2.2).at
  obtain ⟨A4, c4, w4, hrun, hO4, hg4, _⟩ := run_ow_append (P := Tryz.prog) (ty := 46) (ty' := 46) Ty.u8 (hOV.fr0 hfVY) (.int .u8 0) 1 Tryz.underlying46 info_u8 rfl (by decide) (by decide) c2 (ys := E) (hRr.imp fun _ _ h => h) hAA (by have := HR.out.2.2; simp only [List.length_singleton]; omega)
  simp only [List.length_singleton] at hrun hO4
  have hsz : w.heap.size ≤ Y.heap.size := Nat.le_trans hfV.size hfVY.size
  have hf4 : Fr No w w4 := (hfV.next hfVY (fun _ _ f => f.elim)).grown hg4 fun i hi => .inr (hOV.own hi).1
  have hO4' : Ow Ty.u8 5 w4 (fun i => w.heap.size ≤ i) (.slice A4 (1 + E.length) c4) ([3] ++ E) := hO4.mono fun i hi _ => by rcases hi with hi | hi <;> omega
  have H4 := Lib.hid (And.intro hO4' hf4)
  clear hO4 hO4' hf4 hsz hg4 hRr hAA hoY hfY hcall b1 b2 hfZ hcT hRT hfT hsV hfV hOV hfVY
  obtain ⟨X, hX⟩ : ∃ X, X = w4.alloc (.cells #[.int .u8 0, .int .u8 1] 5) := ⟨_, rfl⟩
  have hfX : Fr No w4 X := by rw [hX]; exact (Fr.refl No w4).alloc _
  have hAX : At X (some ⟨w4.heap.size, 0, none⟩) (([0, 1] : Bs).map byteV) := by rw [hX]; exact At.block (heap_alloc_new w4 _)
  have hl3 : ([3] ++ E).length = 1 + E.length := by rw [List.length_append]; rfl
  obtain ⟨A5, c5, w5, hrun5, hO5, hg5, _⟩ := run_ow_append (P := Tryz.prog) (ty := 46) (ty' := 46) Ty.u8 (H4.out.1.fr0 hfX) (.int .u8 0) 1 Tryz.underlying46 info_u8 rfl (by decide) (by decide) 2 (ys := [0, 1]) (row_bytes [0, 1]) hAX (by have := HR.out.2.2; rw [hl3]; simp; omega)
  rw [hl3] at hrun5 hO5
  have hlen2 : 1 + E.length + ([0, 1] : Bs).length = m := by rw [← HM.out]; simp; omega
  have hlist : [3] ++ E ++ [0, 1] = 3 :: (E ++ [0, 1]) := by simp
  rw [hlen2] at hrun5 hO5
  rw [hlist] at hO5
  rw [show ([0, 1] : Bs).length = 2 from rfl] at hrun5
  have hf5 : Fr No w w5 := (H4.out.2.next hfX (fun _ _ f => f.elim)).grown hg5 fun i hi => .inr (H4.out.1.own hi).1
  have hO5' : Ow Ty.u8 5 w5 (fun i => w.heap.size ≤ i) (.slice A5 m c5) (3 :: (E ++ [0, 1])) := hO5.mono fun i hi _ => by have h1 := H4.out.2.size; have h2 := hfX.size; rcases hi with hi | hi <;> omega
  have H5 := Lib.hid (And.intro hO5' hf5)
  clear hO5 hO5' hf5 hg5 hlist hlen2 hl3 hAX hfX
  obtain ⟨q, hq⟩ : ∃ q, E.length = q := ⟨_, rfl⟩
  rw [hq] at hrun hrun5 ⊢
  clear hq
  go_wp2_with (first
    | (at_builtin; rw [← hX]; refine wpList_plain rfl fun K hK => wp_append_run _ _ _ _ rfl rfl rfl hrun5 (hK _ _ ?_))
    | (at_builtin; refine wpList_plain rfl fun K hK => wp_append_run _ _ _ _ rfl rfl rfl hrun (hK _ _ ?_)))
  go_ret
  exact ⟨A5, c5, rfl, H5.out.1, H5.out.2⟩
set_option maxHeartbeats 4000000 in
set_option maxRecDepth 100000 in
theorem enc_text {w : World} {S : ByteArray} (hS : S.size ≤ 200) : Calls Tryz.prog 101 #[vA (2, 0, S)] w (OwnB w (encB (2, 0, S))) := by
  show Calls _ _ #[.agg #[.int .u8 2, .int .i64 0, .string S]] w (OwnB w (2 :: (beN S.size 2 ++ keyB S)))
  have hSi : (S.size : Int) ≤ 200 := by omega
  have HS := Lib.hid hS
  unfold OwnB
  obtain ⟨m, hm⟩ : ∃ m, (2 :: (beN S.size 2 ++ keyB S) : Bs).length = m := ⟨_, rfl⟩
  rw [hm]
  have HM := Lib.hid hm
  clear hS hm
  obtain ⟨W, hW⟩ : ∃ W, W = (w.alloc (.cells #[.int .u8 2, .int .i64 0, .string S] 35)).alloc (.cells #[.int .u8 2] 5) := ⟨_, rfl⟩
  have hOW : Ow Ty.u8 5 W (fun k => w.heap.size ≤ k ∧ k ≠ w.heap.size) (.slice (some ⟨w.heap.size + 1, 0, none⟩) 1 1) [2] := by
    have := ow_new1 (w := w.alloc (.cells #[.int .u8 2, .int .i64 0, .string S] 35)) 2 (x := 2) rfl
    rw [hW]
    rw [World.size_alloc] at this
    exact this.mono fun i hi _ => by omega
  have hfW : Fr No w W := by rw [hW]; exact ((Fr.refl No w).alloc _).alloc _
  have hvW : W.heap[w.heap.size]? = some (.cells #[.int .u8 2, .int .i64 0, .string S] 35 (0, 0)) := by rw [hW]; exact blk_two1 w _ _
  have v0 := blk_cell hvW 0
  have v2 := blk_cell hvW 2
  simp at v0 v2
  have HW := Lib.hid (And.intro hOW (And.intro hfW hvW))
  clear hOW hfW hvW
  obtain ⟨W2, hW2⟩ : ∃ W2, W2 = W.alloc (.cells #[.int .u8 ((S.size : Int) / 256), .int .u8 (S.size : Int)] 5) := ⟨_, rfl⟩
  have hf2 : Fr No W W2 := by rw [hW2]; exact (Fr.refl No W).alloc _
  have hbe : beN S.size 2 = [UInt8.ofNat (S.size / 2 ^ 8), UInt8.ofNat S.size] := by
    unfold beN
    simp [List.range_succ]
  have h0 : ((UInt8.ofNat (S.size / 2 ^ 8)).toNat : Int) = (S.size : Int) / 256 := by rw [UInt8.toNat_ofNat']; have := HS.out; omega
  have h1 : ((UInt8.ofNat S.size).toNat : Int) = (S.size : Int) := by rw [UInt8.toNat_ofNat']; have := HS.out; omega
  have hA2 : At W2 (some ⟨W.heap.size, 0, none⟩) ((beN S.size 2).map byteV) := by
    rw [hW2, hbe]
    have := At.block (heap_alloc_new W (.cells #[.int .u8 ((S.size : Int) / 256), .int .u8 (S.size : Int)] 5))
    rw [show ([UInt8.ofNat (S.size / 2 ^ 8), UInt8.ofNat S.size].map byteV) = [.int .u8 ((S.size : Int) / 256), .int .u8 (S.size : Int)] by rw [← h0, ← h1]; rfl]
    exact this
  have hbl : (beN S.size 2).length = 2 := beN_len _ _
  obtain ⟨A3, c3, w3, hrun3, hO3, hg3, _⟩ := run_ow_append (P := Tryz.prog) (ty := 46) (ty' := 46) Ty.u8 (HW.out.1.fr0 hf2) (.int .u8 0) 1 Tryz.underlying46 info_u8 rfl (by decide) (by decide) 2 (ys := beN S.size 2) (row_bytes _) hA2 (by rw [hbl]; simp)
  rw [hbl] at hrun3 hO3
  simp only [List.length_singleton] at hrun3 hO3
  have hsW : W.heap.size = w.heap.size + 1 + 1 := by rw [hW]; simp
  rw [hsW] at hrun3
  have hf3 : Fr No w w3 := (HW.out.2.1.next hf2 (fun _ _ f => f.elim)).grown hg3 fun i hi => .inr (HW.out.1.own hi).1.1
  have v23 : w3.cell? ⟨w.heap.size, 2, none⟩ = some (.string S) := ((hf2.mono (G := fun i => i ≠ w.heap.size) fun _ _ f => f.elim).grown hg3 fun i hi => .inl (HW.out.1.own hi).1.2).cell v2 (fun f => f rfl)
  have hO3' : Ow Ty.u8 5 w3 (fun i => w.heap.size + 1 ≤ i) (.slice A3 (1 + 2) c3) ([2] ++ beN S.size 2) := hO3.mono fun i hi _ => by
    have := hf2.size
    rcases hi with hi | hi <;> omega
  obtain ⟨cs, q1, q2, q3⟩ := hO3'
  have q1' : w3.ownsRow (w.heap.size + 1) 5 1 (.slice A3 (1 + 2) c3) 3 cs := by
    have hl : ([2] ++ beN S.size 2).length = 3 := by rw [List.length_append, hbl]; rfl
    rw [hl] at q1
    refine ⟨q1.1, ?_⟩
    rcases q1.2 with q | ⟨g, cap, cur, e1, e2, e3⟩
    · exact .inl q
    · exact .inr ⟨g, cap, cur, e1, q3 g (by rw [e1]; rfl), e3⟩
  obtain ⟨i0, hi, hzz⟩ := Option.map_eq_some_iff.1 info_u8
  simp only [Prod.mk.injEq] at hzz
  obtain ⟨hz0, hz1, hz2⟩ := hzz
  obtain ⟨v4, w4, hrun4, hO4, hg4, _⟩ := Lib.run_append_own_string (P := Tryz.prog) w3 (w.heap.size + 1) 46 9 46 5 i0 Tryz.underlying46 Tryz.underlying9 hi hz0 hz1 hz2 _ 3 cs q1' S (by unfold maxLen; have := HS.out; omega) (by have := HS.out; omega) (by have := hf3.size; have := hf2.size; have := hg3.size; omega)
  have hcs : cs = ([2] ++ beN S.size 2).map byteV := by
    have h5 : Row Ty.u8 w3 (fun _ => True) ([2] ++ beN S.size 2) cs := q2.imp fun _ _ h => h
    have h6 : ∀ (l : Bs) (ds : List Value), Row Ty.u8 w3 (fun _ => True) l ds → ds = l.map byteV := fun l => by
      induction l with
      | nil => intro ds h; exact h
      | cons b l ih => rintro ds ⟨c, d, rfl, hc, hd⟩; obtain rfl : c = _ := hc; rw [ih d hd]; rfl
    exact h6 _ _ h5
  have hm3 : 3 + S.size = m := by rw [← HM.out, List.length_cons, List.length_append, hbl, keyB_len]; omega
  have hcells : cs ++ Lib.strCells S = (2 :: (beN S.size 2 ++ keyB S)).map byteV := by rw [hcs]; simp [Lib.strCells, keyB, byteV]
  rw [hcells, hm3] at hO4
  have hf4 : Fr No w w4 := hf3.grown hg4 fun i hi => .inr (by have := q3 i hi; omega)
  have hv4 : ∃ A4 c4, v4 = .slice A4 m c4 ∧ Ow Ty.u8 5 w4 (fun i => w.heap.size ≤ i) (.slice A4 m c4) (2 :: (beN S.size 2 ++ keyB S)) := by
    rcases hO4.2 with ⟨_, q⟩ | ⟨g, cap, cur, rfl, e2, e3⟩
    · omega
    · refine ⟨_, cap, rfl, _, ?_, row_bytes _, fun k hk => ?_⟩
      · rw [HM.out]
        exact ⟨hO4.1, .inr ⟨g, cap, cur, rfl, Nat.zero_le _, e3⟩⟩
      · obtain rfl : g = k := Option.some.inj hk
        omega
  obtain ⟨A4, c4, rfl, hO4'⟩ := hv4
  have H5 := Lib.hid (And.intro hO4' hf4)
  clear hO4' hf4 hO4 hg4 hcells hm3 hcs q1 q1' q2 q3 hf3 hO3 hg3 hA2 hbl h0 h1 hbe hf2 hsW hi hz0 hz1 hz2
  go_enter Tryz.func101, Tryz.ntmps101
  go_wp2_with (first
    | (at_builtin; rw [← hW]; rw [← hW2]; refine wpList_plain rfl fun K hK => wp_append_run _ _ _ _ rfl rfl rfl hrun3 (hK _ _ ?_))
    | (at_builtin; refine wpList_plain rfl fun K hK => wp_append_run2 _ _ _ _ rfl rfl rfl hrun4 (hK _ _ ?_)))
  go_ret
  exact ⟨A4, c4, rfl, H5.out.1, H5.out.2⟩
theorem good_null : GoodV (0, 0, ⟨#[]⟩) := ⟨⟨by decide, by decide⟩, fun w1 => one_null, fun w1 => enc_null⟩
theorem good_text (k : Nat) (hk : k ≤ 3) : GoodV (2, 0, textOf k) := by
  have h : (oneB (2, 0, textOf k)).length ≤ 1000 ∧ (encB (2, 0, textOf k)).length ≤ 1000 ∧ (textOf k).size ≤ 200 := by
    have : k = 0 ∨ k = 1 ∨ k = 2 ∨ k = 3 := by omega
    rcases this with rfl | rfl | rfl | rfl <;> decide
  exact ⟨⟨h.1, h.2.1⟩, fun w1 => one_text hk, fun w1 => enc_text h.2.2⟩
end Go.Proofs.YtlmhphejgahfbaaGreatDoor
