/- Laws of layer 13 (store): StoreErrs. -/
import Derived.Test.YtehlfcdipoognaaLaw8
set_option linter.unusedVariables false
set_option linter.unusedSimpArgs false
namespace Go.Proofs.Ytehlfcdipoognaa
open Go.RowKit

theorem Mid.addbox {w wr : World} {sb bx : Nat} {s t : Sto} {R : Nat → Prop} (h : Mid w wr sb bx s t R) : Mid w wr sb bx s t (fun i => R i ∨ i = bx) := by
  obtain ⟨⟨FS, FM, h1, h2, h3, h4⟩, h5, h6⟩ := h
  exact ⟨⟨FS, FM, h1, h2, fun i hi => by have := h3 i hi; exact ⟨this.1, this.2.1, this.2.2.1, fun h => h.elim this.2.2.2.1 this.2.2.1, this.2.2.2.2⟩, h4⟩, h5, h6⟩
/-- The two Applies and what is compared, whatever was done to the batch. -/
theorem errs_main {w w2 W W5 : World} {sb b10 b11 : Nat} {s : Sto} {A B A' : Option Addr} {c d c' : Nat} {n : Int} {ws : List Wr} (hM : Mid w2 W sb b10 s s No) (hF : Fr No w w2) (hf : Fr No W W5) (hs : s.Fine 2560)
    (hbx : W.heap[b10]? = some (.cells #[.slice A s.kc.length c, .slice B s.kc.length d, .int .i64 s.now] 29 (0, 0))) (hbat : W5.heap[b11]? = some (.cells #[.int .i64 n, .slice A' ws.length c'] 41 (0, 0)))
    (hr : Rd tWr W5 (fun i => W.heap.size ≤ i) A' ws) (hl : ws.length ≤ 11) (hk : ∀ x ∈ ws, x.key.size ≤ 4000) (hb11 : W.heap.size ≤ b11) :
    Calls Try.prog 18 #[.agg #[.slice A s.kc.length c, .slice B s.kc.length d, .int .i64 s.now], .agg #[.int .i64 n, .slice A' ws.length c']] W5 fun e w6 => ∃ A1 c1 B1 d1, e = .returned (.tuple #[.agg #[.slice A1 (s.apply n ws).1.kc.length c1, .slice B1 (s.apply n ws).1.kc.length d1, .int .i64 (s.apply n ws).1.now], .int .i64 (s.apply n ws).2]) ∧
      (w6.heap[b11]? = some (.cells #[.int .i64 n, .slice A' ws.length c'] 41 (0, 0))) ∧
      Calls Try.prog 17 #[.pointer (some ⟨sb, 0, none⟩), .agg #[.int .i64 n, .slice A' ws.length c']] (w6.alloc (.cells #[.slice A1 (s.apply n ws).1.kc.length c1, .slice B1 (s.apply n ws).1.kc.length d1, .int .i64 (s.apply n ws).1.now] 29)) fun e w8 => e = .returned (.int .i64 (s.apply n ws).2) ∧
        w8.heap[w6.heap.size]? = some (.cells #[.slice A1 (s.apply n ws).1.kc.length c1, .slice B1 (s.apply n ws).1.kc.length d1, .int .i64 (s.apply n ws).1.now] 29 (0, 0)) ∧
        Calls Try.prog 24 #[.pointer (some ⟨sb, 0, none⟩), .agg #[.slice A1 (s.apply n ws).1.kc.length c1, .slice B1 (s.apply n ws).1.kc.length d1, .int .i64 (s.apply n ws).1.now]] w8 fun e w9 => e = .returned (.bool true) ∧ Fr No w w9 := by
  have hk' : ∀ x ∈ ws, x.key.size ≤ 9223372036854775807 := fun x hx => by have := hk x hx; omega
  have hz := hf.size
  have hM5 := (hM.add hf).mono (R' := fun i => W.heap.size ≤ i ∧ i < W5.heap.size) fun i hi => .inr hi.1
  have hr5 := hr.mono (G := fun i => W.heap.size ≤ i ∧ i < W5.heap.size) fun i hi hl => ⟨hi, hl⟩
  obtain ⟨A0, c0, B0, d0, hb0, href⟩ := hM5.ref (c' := c') n hs (by omega) hr5 (by omega) hk'
  rw [hf.blk hbx (fun f => f)] at hb0
  injection hb0 with hb0
  simp only [Obj.cells.injEq, Array.mk.injEq, List.cons.injEq, Value.slice.injEq] at hb0
  obtain ⟨⟨⟨rfl, _, rfl⟩, ⟨rfl, _, rfl⟩, _⟩, _⟩ := hb0
  refine href.mono ?_
  rintro e w6 ⟨A1, c1, B1, d1, rfl, hf6, hcome⟩
  refine ⟨A1, c1, B1, d1, rfl, hf6.blk hbat (fun f => f), ?_⟩
  obtain ⟨W7, hW7⟩ : ∃ W7, W7 = w6.alloc (.cells #[.slice A1 (s.apply n ws).1.kc.length c1, .slice B1 (s.apply n ws).1.kc.length d1, .int .i64 (s.apply n ws).1.now] 29) := ⟨_, rfl⟩
  have hf7 : Fr No w6 W7 := by rw [hW7]; exact (Fr.refl No w6).alloc _
  have hb7 : W7.heap[w6.heap.size]? = some (.cells #[.slice A1 (s.apply n ws).1.kc.length c1, .slice B1 (s.apply n ws).1.kc.length d1, .int .i64 (s.apply n ws).1.now] 29 (0, 0)) := by rw [hW7]; exact heap_alloc_new w6 _
  have hs7 : W7.heap.size = w6.heap.size + 1 := by rw [hW7]; simp
  rw [← hW7]
  have hz6 := hf6.size
  have hM7 := (hcome.made W7 w6.heap.size hf7 (Nat.le_refl _) hb7).addbox
  refine (hM7.apply (c' := c') n (fun i hi => hi.elim (fun hi => by have := hi.2; omega) (fun hi => by omega)) hs.small (by omega) (((hr5.fr0 hf6).fr0 hf7).mono fun i hi _ => .inl hi) (by omega) hk').mono ?_
  rintro e w8 ⟨rfl, hM8, S, hfS, hRS⟩
  obtain ⟨A2, c2, B2, d2, hb8, FM, hV⟩ := hM8.blk
  obtain ⟨FS, hS⟩ := hM8.store
  have hb8' : w8.heap[w6.heap.size]? = some (.cells #[.slice A1 (s.apply n ws).1.kc.length c1, .slice B1 (s.apply n ws).1.kc.length d1, .int .i64 (s.apply n ws).1.now] 29 (0, 0)) := hfS.blk hb7 (hRS _ (.inr rfl))
  rw [hb8'] at hb8
  injection hb8 with hb8
  simp only [Obj.cells.injEq, Array.mk.injEq, List.cons.injEq, Value.slice.injEq] at hb8
  obtain ⟨⟨⟨rfl, _, rfl⟩, ⟨rfl, _, rfl⟩, _⟩, _⟩ := hb8
  refine ⟨rfl, hb8', (law_like hS hV (hs.applied n ws) (by omega)).mono ?_⟩
  rintro e w9 ⟨rfl, hf9⟩
  exact ⟨rfl, hF.trans ((hM8.fr.trans (hf9.mono fun _ _ f => f.elim)).mono fun _ _ f => f.elim)⟩

/-- A write that may not be is laid behind the batch's. -/
theorem errs_app {W w4 w7 : World} {b10 : Nat} {n : Int} {ws : List Wr} {A4 A7 : Option Addr} {c4 c7 : Nat} {ob o2 : Obj} (hs4 : W.heap.size ≤ w4.heap.size) (hf4 : Fr No W w4) (hown : Ow tWr 53 w4 (fun i => W.heap.size ≤ i ∧ i < w4.heap.size) (.slice A4 ws.length c4) ws)
    (hbx : W.heap[b10]? = some ob) (hown7 : Ow tWr 53 w7 (fun k => (W.heap.size ≤ k ∧ k < w4.heap.size) ∨ ((w4.alloc (.cells #[.int .i64 n, .slice A4 ws.length c4] 41)).alloc o2).heap.size ≤ k) (.slice A7 (ws.length + 1) c7) (ws ++ [⟨⟨#[]⟩, [], false⟩]))
    (hg7 : ((w4.alloc (.cells #[.int .i64 n, .slice A4 ws.length c4] 41)).alloc o2).grownBy w7 (Value.slice A4 ws.length c4).ownBlock) :
    w7.heap[w4.heap.size]? = some (.cells #[.int .i64 n, .slice A4 ws.length c4] 41 (0, 0)) ∧ w7.heap[b10]? = some ob ∧ Fr No W (w7.setCell ⟨w4.heap.size, 1, none⟩ (.slice A7 (ws.length + 1) c7)) ∧
      (w7.setCell ⟨w4.heap.size, 1, none⟩ (.slice A7 (ws.length + 1) c7)).heap[w4.heap.size]? = some (.cells #[.int .i64 n, .slice A7 (ws.length + 1) c7] 41 (0, 0)) ∧
      Rd tWr (w7.setCell ⟨w4.heap.size, 1, none⟩ (.slice A7 (ws.length + 1) c7)) (fun i => W.heap.size ≤ i) A7 (ws ++ [⟨⟨#[]⟩, [], false⟩]) := by
  have hnb : ∀ j, (Value.slice A4 ws.length c4).ownBlock = some j → W.heap.size ≤ j ∧ j < w4.heap.size := fun j hj => (hown.own hj).1
  have hw3W : b10 < W.heap.size := blk_lt hbx
  have hb5 : ((w4.alloc (.cells #[.int .i64 n, .slice A4 ws.length c4] 41)).alloc o2).heap[w4.heap.size]? = some (.cells #[.int .i64 n, .slice A4 ws.length c4] 41 (0, 0)) := blk_two1 w4 _ _
  have hx5 : ((w4.alloc (.cells #[.int .i64 n, .slice A4 ws.length c4] 41)).alloc o2).heap[b10]? = some ob := (((Fr.refl No w4).alloc _).alloc o2).blk (hf4.blk hbx (fun f => f)) (fun f => f)
  have hb7 := (hg7.block w4.heap.size (blk_lt hb5) (fun e => by have := hnb _ e.symm; omega)).trans hb5
  have hx7 := (hg7.block b10 (blk_lt hx5) (fun e => by have := hnb _ e.symm; omega)).trans hx5
  have hf7 : Fr No W w7 := ((hf4.alloc _).alloc _).grown hg7 fun j hj => .inr (hnb j hj).1
  refine ⟨hb7, hx7, hf7.set _ (.inr hs4) _, by simpa using blk_set hb7 1 (.slice A7 (ws.length + 1) c7), ?_⟩
  have hn : ¬ ((W.heap.size ≤ w4.heap.size ∧ w4.heap.size < w4.heap.size) ∨ ((w4.alloc (.cells #[.int .i64 n, .slice A4 ws.length c4] 41)).alloc o2).heap.size ≤ w4.heap.size) := by simp; omega
  refine ((hown7.rd.2.2).set2 ⟨w4.heap.size, 1, none⟩ hn _).mono fun i hi _ => ?_
  rcases hi with hi | hi
  · exact hi.1
  · simp at hi; show W.heap.size ≤ i; omega

set_option maxHeartbeats 4000000 in
set_option maxRecDepth 100000 in
theorem law_errs_ok {w : World} {F G : Nat → Prop} {D E : Option Addr} {e1 e2 : Nat} {ls : List (List Actn)} {acts : List Actn} (n : Int) (q : UInt8) (h : Rd (Ty.slice tAct) w F D ls) (ha : Rd tAct w G E acts) (hlb : lotsB ls = true) (hal : acts.length ≤ 10) :
    Calls Try.prog 6 #[.slice D ls.length e1, .int .i64 n, .slice E acts.length e2, .int .u8 (q.toNat : Int)] w fun e w' => e = .returned (.bool true) ∧ Fr No w w' := by
  have hlots := fun w' (f : Fr No w w') => law_lots (c := e1) (h.fr0 f)
  rw [hlb] at hlots
  have hst := fun w' (f : Fr No w w') => law_stored (e := e1) (h.fr0 f) hlb
  have hbat := fun w' (f : Fr No w w') => ref_batch_own (e := e2) n (ha.fr0 f) (by omega)
  have hfine : (stAll Sto.empty ls).Fine 2560 := (stAll_fine empty_fine ls).mono (by have := (lotsB_all hlb).1; omega)
  obtain ⟨s, hs⟩ : ∃ s, stAll Sto.empty ls = s := ⟨_, rfl⟩
  simp only [hs] at hst hfine
  obtain ⟨hn0, hn1⟩ := nowi hfine (by omega)
  have hbl := batchW_len acts
  have hbm : ∀ x ∈ batchW acts, x.key.size ≤ 4000 := fun x hx => by have := (batchW_mem hx).1; omega
  have H := Lib.hid (And.intro hlots (And.intro hst (And.intro hfine (And.intro hbat hbm))))
  have hai : (acts.length : Int) ≤ 10 := by omega
  have hbi : ((batchW acts).length : Int) ≤ 10 := by omega
  clear hlots hst hfine hlb hs h ha hbat hbm
  generalize batchW acts = ws at *
  go_enter Try.func6, Try.ntmps6
  go_wp2_with fail
  refine (law_one w).mono ?_
  rintro e1 w1 ⟨rfl, hf1⟩
  have HF1 := Lib.hid hf1
  clear hf1
  go_wp2_with fail
  refine (H.out.1 _ HF1.out).mono ?_
  rintro e2 w2 ⟨rfl, hf2⟩
  have HF2 := Lib.hid (HF1.out.trans (hf2.mono fun _ _ f => f.elim))
  clear hf2 HF1
  go_wp2_with fail
  refine (H.out.2.1 _ HF2.out).mono ?_
  rintro e3 w3 ⟨sb, A, c, B, d, rfl, hsd, hf3⟩
  obtain ⟨W, hW⟩ : ∃ W, W = w3.alloc (.cells #[.slice A s.kc.length c, .slice B s.kc.length d, .int .i64 s.now] 29) := ⟨_, rfl⟩
  have hfW : Fr No w3 W := by rw [hW]; exact (Fr.refl No w3).alloc _
  have hbW : W.heap[w3.heap.size]? = some (.cells #[.slice A s.kc.length c, .slice B s.kc.length d, .int .i64 s.now] 29 (0, 0)) := by rw [hW]; exact heap_alloc_new w3 _
  have hM := hsd.made W w3.heap.size hfW (Nat.le_refl _) hbW
  have hF : Fr No w W := HF2.out.trans (hM.fr.mono fun _ _ f => f.elim)
  have HM := Lib.hid (And.intro hM (And.intro hF hbW))
  clear hM hF hbW hfW hf3 hsd
  go_wp2_with fail
  rw [← hW]
  clear hW
  refine (H.out.2.2.2.1 _ HM.out.2.1).mono ?_
  rintro e4 w4 ⟨A4, c4, rfl, hf4, ho4⟩
  have hs4 := hf4.size
  have hbx4 := hf4.blk HM.out.2.2 (fun f => f)
  have x0 := blk_cell hbx4 0
  have x1 := blk_cell hbx4 1
  have x2 := blk_cell hbx4 2
  simp at x0 x1 x2
  have x0a := fun o => cell_alloc x0 o
  have x1a := fun o => cell_alloc x1 o
  have x2a := fun o => cell_alloc x2 o
  have hw34 : w3.heap.size < w4.heap.size := blk_lt hbx4
  have H4 := Lib.hid (And.intro hs4 (And.intro hf4 (ho4.mono fun i hi hl => (⟨hi, hl⟩ : W.heap.size ≤ i ∧ i < w4.heap.size))))
  clear hs4 hf4 ho4 hbx4
  have hw1 : IntKind.i64.wrap (s.now + 1) = s.now + 1 := IntWalk.i64_in _ (by omega)
  have h3 : (q.toNat : Int) % 3 = 0 ∨ (q.toNat : Int) % 3 = 1 ∨ (q.toNat : Int) % 3 = 2 := by omega
  rcases h3 with h3 | h3 | h3
  · have hA : ((q.toNat : Int) % 3 == 0) = true := by rw [h3]; rfl
    have hB : ((q.toNat : Int) % 3 == 1) = false := by rw [h3]; rfl
    clear h3
    go_wp2_with fail
    refine (errs_main (b11 := w4.heap.size) HM.out.1 HF2.out (H4.out.2.1.alloc _) H.out.2.2.1 HM.out.2.2 (heap_alloc_new w4 _) ((H4.out.2.2.rd.2.2.fr0 ((Fr.refl No w4).alloc _)).mono fun i hi _ => hi.1) (by omega) H.out.2.2.2.2 H4.out.1).mono ?_
    rintro e6 w6 ⟨A1, c1, B1, d1, rfl, hbat6, hst6⟩
    have k0 := blk_cell hbat6 0
    have k1 := blk_cell hbat6 1
    have k0a := fun o => cell_alloc k0 o
    have k1a := fun o => cell_alloc k1 o
    simp at k0 k1 k0a k1a
    have H6 := Lib.hid hst6
    clear hbat6 hst6
    go_wp2_with fail
    refine H6.out.mono ?_
    rintro e8 w8 ⟨rfl, hb8, hlike⟩
    have l0 := blk_cell hb8 0
    have l1 := blk_cell hb8 1
    have l2 := blk_cell hb8 2
    simp at l0 l1 l2
    have H8 := Lib.hid hlike
    clear hlike hb8
    go_wp2_with fail
    refine H8.out.mono ?_
    rintro e9 w9 ⟨rfl, hf9⟩
    go_wp2_with fail
    go_ret
    exact ⟨rfl, hf9⟩
  · have hA : ((q.toNat : Int) % 3 == 0) = false := by rw [h3]; rfl
    have hB : ((q.toNat : Int) % 3 == 1) = true := by rw [h3]; rfl
    clear h3
    go_wp2_with (at_builtin; refine ow_append tWr (ys := [(⟨⟨#[]⟩, [], false⟩ : Wr)]) ((H4.out.2.2.fr0 ((Fr.refl No w4).alloc _)).fr0 ((Fr.refl No _).alloc _)) _ _ (.agg #[.string ⟨#[]⟩, .slice none 0 0, .bool false]) 48 rfl rfl Try.underlying39 info_awr rfl (by decide) (by decide) rfl rfl rfl (Row.single (tWr_mk (a := ⟨#[]⟩) (r := []) (g := false) (A := none) (c := 0) (Nat.le_refl 0) (Rd.nil (t := Ty.u8)))) (At.block (blk_two2 _ _ _)) (by simp; omega) ?_
                 intro A7 c7 w7 hown7 hg7 hat7
                 have hW7 := errs_app H4.out.1 H4.out.2.1 H4.out.2.2 HM.out.2.2 hown7 hg7
                 rw [show ws.length + ([(⟨⟨#[]⟩, [], false⟩ : Wr)] : List Wr).length = ws.length + 1 from rfl]
                 have k0 := blk_cell hW7.1 0
                 have k1 := blk_cell hW7.1 1
                 have z1 := blk_frozen hW7.1 1
                 have x0 := blk_cell hW7.2.1 0
                 have x1 := blk_cell hW7.2.1 1
                 have x2 := blk_cell hW7.2.1 2
                 simp at k0 k1 x0 x1 x2
                 have hlx : (ws ++ [(⟨⟨#[]⟩, [], false⟩ : Wr)]).length = ws.length + 1 := by simp
                 have H7 := Lib.hid (And.intro hW7.2.2.1 (And.intro hW7.2.2.2.1 (And.intro hW7.2.2.2.2 hlx)))
                 clear hW7 hlx hown7 hg7 hat7)
    have hmain := (errs_main (b11 := w4.heap.size) (ws := ws ++ [⟨⟨#[]⟩, [], false⟩]) HM.out.1 HF2.out H7.out.1 H.out.2.2.1 HM.out.2.2 (by rw [H7.out.2.2.2]; exact H7.out.2.1) H7.out.2.2.1 (by rw [List.length_append]; simp; omega) (fun x hx => by rcases List.mem_append.1 hx with hx | hx; exact H.out.2.2.2.2 x hx; (obtain rfl := List.mem_singleton.1 hx; show (0 : Nat) ≤ 4000; omega)) H4.out.1)
    rw [H7.out.2.2.2] at hmain
    refine hmain.mono ?_
    rintro e6 w6 ⟨A1, c1, B1, d1, rfl, hbat6, hst6⟩
    have k0 := blk_cell hbat6 0
    have k1 := blk_cell hbat6 1
    have k0a := fun o => cell_alloc k0 o
    have k1a := fun o => cell_alloc k1 o
    simp at k0 k1 k0a k1a
    have H6 := Lib.hid hst6
    clear hbat6 hst6
    go_wp2_with fail
    refine H6.out.mono ?_
    rintro e8 w8 ⟨rfl, hb8, hlike⟩
    have l0 := blk_cell hb8 0
    have l1 := blk_cell hb8 1
    have l2 := blk_cell hb8 2
    simp at l0 l1 l2
    have H8 := Lib.hid hlike
    clear hlike hb8
    go_wp2_with fail
    refine H8.out.mono ?_
    rintro e9 w9 ⟨rfl, hf9⟩
    go_wp2_with fail
    go_ret
    exact ⟨rfl, hf9⟩
  · have hA : ((q.toNat : Int) % 3 == 0) = false := by rw [h3]; rfl
    have hB : ((q.toNat : Int) % 3 == 1) = false := by rw [h3]; rfl
    clear h3
    go_wp2_with fail
    refine (errs_main (b11 := w4.heap.size) HM.out.1 HF2.out (H4.out.2.1.alloc _) H.out.2.2.1 HM.out.2.2 (heap_alloc_new w4 _) ((H4.out.2.2.rd.2.2.fr0 ((Fr.refl No w4).alloc _)).mono fun i hi _ => hi.1) (by omega) H.out.2.2.2.2 H4.out.1).mono ?_
    rintro e6 w6 ⟨A1, c1, B1, d1, rfl, hbat6, hst6⟩
    have k0 := blk_cell hbat6 0
    have k1 := blk_cell hbat6 1
    have k0a := fun o => cell_alloc k0 o
    have k1a := fun o => cell_alloc k1 o
    simp at k0 k1 k0a k1a
    have H6 := Lib.hid hst6
    clear hbat6 hst6
    go_wp2_with fail
    refine H6.out.mono ?_
    rintro e8 w8 ⟨rfl, hb8, hlike⟩
    have l0 := blk_cell hb8 0
    have l1 := blk_cell hb8 1
    have l2 := blk_cell hb8 2
    simp at l0 l1 l2
    have H8 := Lib.hid hlike
    clear hlike hb8
    go_wp2_with fail
    refine H8.out.mono ?_
    rintro e9 w9 ⟨rfl, hf9⟩
    go_wp2_with fail
    go_ret
    exact ⟨rfl, hf9⟩

set_option maxHeartbeats 2000000 in
set_option maxRecDepth 100000 in
theorem law_errs {w : World} {F G : Nat → Prop} {D E : Option Addr} {e1 e2 : Nat} {ls : List (List Actn)} {acts : List Actn} (n b : Int) (hb : (Lit.int .u8 b).wf = true) (h : Rd (Ty.slice tAct) w F D ls) (ha : Rd tAct w G E acts) :
    Calls Try.prog 6 #[.slice D ls.length e1, .int .i64 n, .slice E acts.length e2, .int .u8 b] w fun e w' => e = .returned (.bool true) ∧ Fr No w w' := by
  obtain ⟨q, rfl⟩ := u8_of_wf hb
  have hlots := fun w' (f : Fr No w w') => law_lots (c := e1) (h.fr0 f)
  have hone := Lib.hid law_one
  have hai : (acts.length : Int) ≤ 9223372036854775807 := by have := ha.1; omega
  cases hlb : lotsB ls with
  | false =>
    · rw [hlb] at hlots
      have H := Lib.hid hlots
      clear hlots hlb h hb ha
      go_enter Try.func6, Try.ntmps6
      go_wp2_with fail
      refine (hone.out w).mono ?_
      rintro e1 w1 ⟨rfl, hf1⟩
      have HF1 := Lib.hid (hf1)
      clear hf1
      go_wp2_with fail
      refine (H.out _ HF1.out).mono ?_
      rintro e2 w2 ⟨rfl, hf2⟩
      have HF2 := Lib.hid (HF1.out.trans (hf2.mono fun _ _ f => f.elim))
      clear hf2
      go_wp2_with fail
      refine (hone.out w2).mono ?_
      rintro e3 w3 ⟨rfl, hf3⟩
      have HF3 := Lib.hid (HF2.out.trans (hf3.mono fun _ _ f => f.elim))
      clear hf3
      go_wp2_with fail
      go_ret
      exact ⟨rfl, HF3.out⟩
  | true =>
    by_cases hal : acts.length ≤ 10
    · exact law_errs_ok n q h ha hlb hal
    · have hal2 : 10 < (acts.length : Int) := by omega
      rw [hlb] at hlots
      have H := Lib.hid hlots
      clear hlots hlb h hb ha hal
      go_enter Try.func6, Try.ntmps6
      go_wp2_with fail
      refine (hone.out w).mono ?_
      rintro e1 w1 ⟨rfl, hf1⟩
      have HF1 := Lib.hid (hf1)
      clear hf1
      go_wp2_with fail
      refine (H.out _ HF1.out).mono ?_
      rintro e2 w2 ⟨rfl, hf2⟩
      have HF2 := Lib.hid (HF1.out.trans (hf2.mono fun _ _ f => f.elim))
      clear hf2
      go_wp2_with fail
      refine (hone.out w2).mono ?_
      rintro e3 w3 ⟨rfl, hf3⟩
      have HF3 := Lib.hid (HF2.out.trans (hf3.mono fun _ _ f => f.elim))
      clear hf3
      go_wp2_with fail
      go_ret
      exact ⟨rfl, HF3.out⟩
end Go.Proofs.Ytehlfcdipoognaa
