/- Laws of layer 13 (store): stored: a store, and the document's, of batches. -/
import Derived.Test.YtkcppngopdiljaaLaw2
import Derived.Test.YtkcppngopdiljaaRef13f
import Derived.Test.YtkcppngopdiljaaRef06b
import Derived.Deep.RegionHeld3
import Derived.Deep.DeepCutAuto
set_option linter.unusedVariables false
set_option linter.unusedSimpArgs false
namespace Go.Proofs.Ytkcppngopdiljaa
open Go.RowKit

/-! ### What is stored -/
def stStep (s : Sto) (a : List Actn) : Sto := if a.length = 0 then s else (s.apply (s.now + 1) (batchW a)).1
def stAll (s : Sto) (ls : List (List Actn)) : Sto := ls.foldl stStep s
theorem stStep_fine {s : Sto} {m : Nat} (h : s.Fine m) (a : List Actn) : (stStep s a).Fine (m + 64) := by
  unfold stStep
  split
  · exact h.mono (by omega)
  · exact h.applied _ _
theorem stAll_fine {s : Sto} {m : Nat} (h : s.Fine m) (ls : List (List Actn)) : (stAll s ls).Fine (m + 64 * ls.length) := by
  unfold stAll
  induction ls generalizing s m with
  | nil => exact h
  | cons a ls ih => exact (ih (stStep_fine h a)).mono (by rw [List.length_cons]; omega)
theorem stAll_snoc (s : Sto) (ls : List (List Actn)) (a : List Actn) : stAll s (ls ++ [a]) = stStep (stAll s ls) a := by unfold stAll; rw [List.foldl_append]; rfl
theorem empty_fine : Sto.empty.Fine 0 := ⟨empty_small, List.Pairwise.nil, fun p hp => by cases hp⟩
theorem lotsB_all {α : Type} {ls : List (List α)} (h : lotsB ls = true) : ls.length ≤ 20 ∧ ∀ l ∈ ls, l.length ≤ 10 := by
  unfold lotsB at h
  rw [Bool.and_eq_true, List.all_eq_true] at h
  exact ⟨of_decide_eq_true h.2, fun l hl => of_decide_eq_true (h.1 l hl)⟩
/-- A batch by numbers is right, and is laid in. -/
theorem apply_batch {s : Sto} {m : Nat} (h : s.Fine m) {a : List Actn} (h0 : a.length ≠ 0) (hl : a.length ≤ 64) : (s.apply (s.now + 1) (batchW a)).2 = 0 := by
  have hr : right (s.now + 1) (batchW a) = true := batchW_right (by have := h.small.now0; omega) (by rintro rfl; exact h0 rfl) hl
  unfold Sto.apply
  rw [hr]
  simp

/-! ### The document's store in a box, a batch in a box -/
structure StoBox (w : World) (F : Nat → Prop) (b : Nat) (s : Sto) : Prop where
  box : ∃ A c B d, w.heap[b]? = some (.cells #[.slice A s.kc.length c, .slice B s.kc.length d, .int .i64 s.now] 55 (0, 0)) ∧ StoVal w F (.agg #[.slice A s.kc.length c, .slice B s.kc.length d, .int .i64 s.now]) s
theorem StoBox.fr {S F : Nat → Prop} {w w' : World} {b : Nat} {s : Sto} (h : StoBox w F b s) (f : Fr S w w') (hb : ¬ S b) (hd : ∀ k, F k → ¬ S k) : StoBox w' F b s := by
  obtain ⟨A, c, B, d, h1, h2⟩ := h.box
  exact ⟨A, c, B, d, f.blk h1 hb, h2.fr f hd⟩
theorem StoBox.fr0 {F : Nat → Prop} {w w' : World} {b : Nat} {s : Sto} (h : StoBox w F b s) (f : Fr No w w') : StoBox w' F b s := h.fr f (fun f => f) fun _ _ f => f
theorem StoBox.mono {F G : Nat → Prop} {w : World} {b : Nat} {s : Sto} (h : StoBox w F b s) (k : ∀ k, F k → k < w.heap.size → G k) : StoBox w G b s := by
  obtain ⟨A, c, B, d, h1, h2⟩ := h.box
  exact ⟨A, c, B, d, h1, h2.mono k⟩
/-- Another store is laid into the box. -/
theorem StoBox.put {F G : Nat → Prop} {w w2 : World} {b : Nat} {s s2 : Sto} {A B : Option Addr} {c d : Nat} (h : StoBox w F b s) (f : Fr No w w2) (hv : StoVal w2 G (.agg #[.slice A s2.kc.length c, .slice B s2.kc.length d, .int .i64 s2.now]) s2) (hG : ¬ G b) :
    StoBox (((w2.setCell ⟨b, 0, none⟩ (.slice A s2.kc.length c)).setCell ⟨b, 1, none⟩ (.slice B s2.kc.length d)).setCell ⟨b, 2, none⟩ (.int .i64 s2.now)) G b s2 := by
  obtain ⟨A0, c0, B0, d0, h1, h2⟩ := h.box
  have hb := blk_set (blk_set (blk_set (f.blk h1 (fun f => f)) 0 (.slice A s2.kc.length c)) 1 (.slice B s2.kc.length d)) 2 (.int .i64 s2.now)
  have hfr : Fr (fun i => i = b) w2 (((w2.setCell ⟨b, 0, none⟩ (.slice A s2.kc.length c)).setCell ⟨b, 1, none⟩ (.slice B s2.kc.length d)).setCell ⟨b, 2, none⟩ (.int .i64 s2.now)) :=
    (((Fr.refl (fun i => i = b) w2).set ⟨b, 0, none⟩ (.inl rfl) _).set ⟨b, 1, none⟩ (.inl rfl) _).set ⟨b, 2, none⟩ (.inl rfl) _
  exact ⟨A, c, B, d, by simpa using hb, hv.fr hfr fun k hk e => hG (by rw [← e]; exact hk)⟩

structure BatBox (wr wx : World) (b : Nat) (n : Int) (ws : List Wr) : Prop where
  lt : wr.heap.size ≤ b
  fr : Fr No wr wx
  box : ∃ A' c', wx.heap[b]? = some (.cells #[.int .i64 n, .slice A' ws.length c'] 40 (0, 0)) ∧ ws.length ≤ c' ∧ Rd tWr wx (fun i => wr.heap.size ≤ i ∧ i ≠ b) A' ws
theorem bat_before {wr w0 w6 : World} {n : Int} {ws : List Wr} {A' : Option Addr} {c' : Nat} (hw0 : Fr No wr w0) (hs0 : wr.heap.size + 1 ≤ w0.heap.size) (hb : w0.heap[wr.heap.size]? = some (.cells #[.int .i64 0, .slice none 0 0] 40 (0, 0)))
    (hf : Fr No w0 w6) (hc : ws.length ≤ c') (hr : Rd tWr w6 (fun i => w0.heap.size ≤ i) A' ws) :
    BatBox wr ((w6.setCell ⟨wr.heap.size, 0, none⟩ (.int .i64 n)).setCell ⟨wr.heap.size, 1, none⟩ (.slice A' ws.length c')) wr.heap.size n ws := by
  have h6 : Fr No wr w6 := hw0.trans (hf.mono fun _ _ f => f.elim)
  have hb6 := blk_set (blk_set (hf.blk hb (fun f => f)) 0 (.int .i64 n)) 1 (.slice A' ws.length c')
  have hn : ¬ (w0.heap.size ≤ wr.heap.size) := by omega
  exact ⟨Nat.le_refl _, (h6.set ⟨wr.heap.size, 0, none⟩ (.inr (Nat.le_refl _)) _).set ⟨wr.heap.size, 1, none⟩ (.inr (Nat.le_refl _)) _, A', c', by simpa using hb6, hc, ((hr.set2 ⟨wr.heap.size, 0, none⟩ hn _).set2 ⟨wr.heap.size, 1, none⟩ hn _).mono fun i hi _ => by have hi' : w0.heap.size ≤ i := hi; exact ⟨by omega, by omega⟩⟩
theorem bat_behind {wr w0 w6 : World} {n : Int} {ws : List Wr} {A' : Option Addr} {c' : Nat} (hw0 : Fr No wr w0)
    (hf : Fr No w0 w6) (hc : ws.length ≤ c') (hr : Rd tWr w6 (fun i => w0.heap.size ≤ i) A' ws) :
    BatBox wr (w6.alloc (.cells #[.int .i64 n, .slice A' ws.length c'] 40)) w6.heap.size n ws := by
  have h6 : Fr No wr w6 := hw0.trans (hf.mono fun _ _ f => f.elim)
  have hs := hw0.size
  exact ⟨h6.size, h6.alloc _, A', c', heap_alloc_new w6 _, hc, ((hr.mono fun i hi hl => (⟨hi, hl⟩ : w0.heap.size ≤ i ∧ i < w6.heap.size)).fr0 ((Fr.refl No w6).alloc _)).mono fun i hi _ => by have := hi.1; have := hi.2; exact ⟨by omega, by omega⟩⟩

/-! ### A store and the document's, side by side -/
/-- The store's blocks are its own: none of the document's, none of R's. -/
structure Mid (w wr : World) (sb bx : Nat) (s t : Sto) (R : Nat → Prop) : Prop where
  sets : ∃ FS FM : Nat → Prop, StoreAt wr FS sb s ∧ StoBox wr FM bx t ∧ (∀ i, FS i → w.heap.size ≤ i ∧ ¬ FM i ∧ i ≠ bx ∧ ¬ R i ∧ i < wr.heap.size) ∧ ∀ i, FM i → (i ≠ bx ∧ i < wr.heap.size) ∧ w.heap.size ≤ i
  fr : Fr No w wr
  low : w.heap.size ≤ bx
section
variable {w wr : World} {sb bx m : Nat} {s t : Sto} {R : Nat → Prop}
theorem Mid.fr0 {w' : World} (h : Mid w wr sb bx s t R) (f : Fr No wr w') : Mid w w' sb bx s t R := by
  obtain ⟨⟨FS, FM, h1, h2, h3, h4⟩, h5, h6⟩ := h
  have := f.size
  exact ⟨⟨FS, FM, h1.fr0 f, h2.fr0 f, fun i hi => by have := h3 i hi; exact ⟨this.1, this.2.1, this.2.2.1, this.2.2.2.1, by omega⟩, fun i hi => by have := h4 i hi; exact ⟨⟨this.1.1, by omega⟩, this.2⟩⟩, h5.trans (f.mono fun _ _ f => f.elim), h6⟩
theorem Mid.mono {R' : Nat → Prop} (h : Mid w wr sb bx s t R) (k : ∀ i, R' i → R i) : Mid w wr sb bx s t R' := by
  obtain ⟨⟨FS, FM, h1, h2, h3, h4⟩, h5, h6⟩ := h
  exact ⟨⟨FS, FM, h1, h2, fun i hi => by have := h3 i hi; exact ⟨this.1, this.2.1, this.2.2.1, fun h => this.2.2.2.1 (k i h), this.2.2.2.2⟩, h4⟩, h5, h6⟩
/-- What is made behind the store is none of its. -/
theorem Mid.add {w' : World} (h : Mid w wr sb bx s t R) (f : Fr No wr w') : Mid w w' sb bx s t (fun i => R i ∨ wr.heap.size ≤ i) := by
  obtain ⟨⟨FS, FM, h1, h2, h3, h4⟩, h5, h6⟩ := h
  have := f.size
  exact ⟨⟨FS, FM, h1.fr0 f, h2.fr0 f, fun i hi => by have := h3 i hi; exact ⟨this.1, this.2.1, this.2.2.1, fun h => h.elim this.2.2.2.1 (fun h => by omega), by omega⟩, fun i hi => by have := h4 i hi; exact ⟨⟨this.1.1, by omega⟩, this.2⟩⟩, h5.trans (f.mono fun _ _ f => f.elim), h6⟩
theorem Mid.blk (h : Mid w wr sb bx s t R) : ∃ A c B d, wr.heap[bx]? = some (.cells #[.slice A t.kc.length c, .slice B t.kc.length d, .int .i64 t.now] 55 (0, 0)) ∧ ∃ FM, StoVal wr FM (.agg #[.slice A t.kc.length c, .slice B t.kc.length d, .int .i64 t.now]) t := by
  obtain ⟨⟨FS, FM, h1, h2, h3, h4⟩, h5, h6⟩ := h
  obtain ⟨A, c, B, d, h8, h7⟩ := h2.box
  exact ⟨A, c, B, d, h8, FM, h7⟩
theorem Mid.store (h : Mid w wr sb bx s t R) : ∃ FS, StoreAt wr FS sb s := by
  obtain ⟨⟨FS, FM, h1, h2, h3, h4⟩, h5, h6⟩ := h
  exact ⟨FS, h1⟩
/-- The store's Apply. -/
theorem Mid.apply {A' : Option Addr} {c' : Nat} {ws : List Wr} (n : Int) (h : Mid w wr sb bx s t R) (hRl : ∀ i, R i → i < wr.heap.size) (hs : s.Small m) (hm : m ≤ 100000000) (hb : Rd tWr wr R A' ws) (hl : ws.length ≤ 1000000000) (hk : ∀ x ∈ ws, x.key.size ≤ 9223372036854775807) :
    Calls Try.prog 38 #[.pointer (some ⟨sb, 0, none⟩), .agg #[.int .i64 n, .slice A' ws.length c']] wr fun e w2 =>
      e = .returned (.int .i64 (s.apply n ws).2) ∧ Mid w w2 sb bx (s.apply n ws).1 t R ∧ ∃ S, Fr S wr w2 ∧ ∀ i, R i → ¬ S i := by
  obtain ⟨⟨FS, FM, h1, h2, h3, h4⟩, h5, h6⟩ := h
  refine (store_apply (c := c') n h1 hs hm hb (fun i hi hf => (h3 i hf).2.2.2.1 hi) hl hk).mono ?_
  rintro e w2 ⟨rfl, hs2, hf2⟩
  have hz := hf2.size
  have hw := h5.size
  have hbx : bx < wr.heap.size := by obtain ⟨_, _, _, _, h6, _⟩ := h2.box; exact blk_lt h6
  refine ⟨rfl, ⟨⟨fun i => (FS i ∨ wr.heap.size ≤ i) ∧ i < w2.heap.size, FM, hs2.mono fun i hi hl => ⟨hi, hl⟩, h2.fr hf2 (fun h => (h3 _ h).2.2.1 rfl) (fun k hk hf => (h3 k hf).2.1 hk), fun i hi => ?_, fun i hi => by have := h4 i hi; exact ⟨⟨this.1.1, by omega⟩, this.2⟩⟩, h5.trans (hf2.mono fun i _ hi => .inr (h3 i hi).1), h6⟩, FS, hf2, fun i hi hf => (h3 i hf).2.2.2.1 hi⟩
  obtain ⟨hi | hi, hlt⟩ := hi
  · have := h3 i hi
    exact ⟨this.1, this.2.1, this.2.2.1, this.2.2.2.1, hlt⟩
  · exact ⟨by omega, fun h => by have := (h4 i h).1.2; omega, by omega, fun h => by have := hRl i h; omega, hlt⟩
/-- A store of the document's that has just come, as a value: it may be laid into the box, or into a new one. -/
structure Come (w w3 : World) (sb bx : Nat) (s t1 : Sto) (R : Nat → Prop) (A : Option Addr) (c : Nat) (B : Option Addr) (d : Nat) : Prop where
  laid : ∀ w4, Fr No w3 w4 → Mid w (((w4.setCell ⟨bx, 0, none⟩ (.slice A t1.kc.length c)).setCell ⟨bx, 1, none⟩ (.slice B t1.kc.length d)).setCell ⟨bx, 2, none⟩ (.int .i64 t1.now)) sb bx s t1 R
  made : ∀ w4 b, Fr No w3 w4 → w3.heap.size ≤ b → w4.heap[b]? = some (.cells #[.slice A t1.kc.length c, .slice B t1.kc.length d, .int .i64 t1.now] 55 (0, 0)) → Mid w w4 sb b s t1 R
theorem Mid.come {w3 : World} {FM : Nat → Prop} {t1 : Sto} {u : Value} (h : ∃ FS : Nat → Prop, StoreAt wr FS sb s ∧ StoBox wr FM bx t ∧ (∀ i, FS i → w.heap.size ≤ i ∧ ¬ FM i ∧ i ≠ bx ∧ ¬ R i ∧ i < wr.heap.size) ∧ ∀ i, FM i → (i ≠ bx ∧ i < wr.heap.size) ∧ w.heap.size ≤ i) (h5 : Fr No w wr) (h6 : w.heap.size ≤ bx) (f : Fr No wr w3) (hv : StoVal w3 (fun i => FM i ∨ wr.heap.size ≤ i) u t1) :
    ∃ A c B d, u = .agg #[.slice A t1.kc.length c, .slice B t1.kc.length d, .int .i64 t1.now] ∧ Come w w3 sb bx s t1 R A c B d := by
  obtain ⟨FS, h1, h2, h3, h4⟩ := h
  have hv0 := hv
  obtain ⟨A, c, B, d, rfl, _⟩ := hv
  have hz := f.size
  have hw := h5.size
  have hbx : bx < wr.heap.size := by obtain ⟨_, _, _, _, h6, _⟩ := h2.box; exact blk_lt h6
  have hG : ∀ i, (FM i ∨ wr.heap.size ≤ i) ∧ i < w3.heap.size → (i ≠ bx ∧ i < w3.heap.size) ∧ w.heap.size ≤ i := fun i hi => ⟨⟨by rcases hi.1 with h | h; exact (h4 i h).1.1; omega, hi.2⟩, by rcases hi.1 with h | h; exact (h4 i h).2; omega⟩
  refine ⟨A, c, B, d, rfl, ⟨fun w4 f4 => ?_, fun w4 b f4 hb hblk => ?_⟩⟩
  · have f34 : Fr No wr w4 := f.trans (f4.mono fun _ _ f => f.elim)
    have hfr : Fr (fun i => i = bx) w4 (((w4.setCell ⟨bx, 0, none⟩ (.slice A t1.kc.length c)).setCell ⟨bx, 1, none⟩ (.slice B t1.kc.length d)).setCell ⟨bx, 2, none⟩ (.int .i64 t1.now)) :=
      (((Fr.refl (fun i => i = bx) w4).set ⟨bx, 0, none⟩ (.inl rfl) _).set ⟨bx, 1, none⟩ (.inl rfl) _).set ⟨bx, 2, none⟩ (.inl rfl) _
    have hz4 := f4.size
    have hz5 := hfr.size
    have hbw : Fr No w (((w4.setCell ⟨bx, 0, none⟩ (.slice A t1.kc.length c)).setCell ⟨bx, 1, none⟩ (.slice B t1.kc.length d)).setCell ⟨bx, 2, none⟩ (.int .i64 t1.now)) := (h5.trans (f34.mono fun _ _ f => f.elim)).trans (hfr.mono fun i _ e => .inr (by omega))
    refine ⟨⟨FS, fun i => (FM i ∨ wr.heap.size ≤ i) ∧ i < w3.heap.size, (h1.fr0 f34).fr hfr (fun i hi e => (h3 i hi).2.2.1 e), (h2.fr0 f34).put (Fr.refl _ _) ((hv0.mono fun i hi hl => ⟨hi, hl⟩).fr0 f4) (fun h => (hG _ h).1.1 rfl), fun i hi => ?_, fun i hi => ?_⟩, hbw, h6⟩
    · have := h3 i hi
      exact ⟨this.1, fun h => by rcases h.1 with h | h; exact this.2.1 h; omega, this.2.2.1, this.2.2.2.1, by omega⟩
    · have := hG i hi
      exact ⟨⟨this.1.1, by omega⟩, this.2⟩
  · have f34 : Fr No wr w4 := f.trans (f4.mono fun _ _ f => f.elim)
    have hz4 := f4.size
    refine ⟨⟨FS, fun i => (FM i ∨ wr.heap.size ≤ i) ∧ i < w3.heap.size, h1.fr0 f34, ⟨A, c, B, d, hblk, (hv0.mono fun i hi hl => ⟨hi, hl⟩).fr0 f4⟩, fun i hi => ?_, fun i hi => ?_⟩, h5.trans (f34.mono fun _ _ f => f.elim), by omega⟩
    · have := h3 i hi
      exact ⟨this.1, fun h => by rcases h.1 with h | h; exact this.2.1 h; omega, by omega, this.2.2.2.1, by omega⟩
    · have := hG i hi
      exact ⟨⟨by omega, by omega⟩, this.2⟩
/-- The document's Apply. -/
theorem Mid.ref {A' : Option Addr} {c' : Nat} {ws : List Wr} {R' : Nat → Prop} (n : Int) (h : Mid w wr sb bx s t R) (ht : t.Fine m) (hm : m ≤ 100000000) (hb : Rd tWr wr R' A' ws) (hl : ws.length ≤ 1000000000) (hk : ∀ x ∈ ws, x.key.size ≤ 9223372036854775807) :
    ∃ A c B d, wr.heap[bx]? = some (.cells #[.slice A t.kc.length c, .slice B t.kc.length d, .int .i64 t.now] 55 (0, 0)) ∧
      Calls Try.prog 39 #[.agg #[.slice A t.kc.length c, .slice B t.kc.length d, .int .i64 t.now], .agg #[.int .i64 n, .slice A' ws.length c']] wr fun e w3 =>
        ∃ A1 c1 B1 d1, e = .returned (.tuple #[.agg #[.slice A1 (t.apply n ws).1.kc.length c1, .slice B1 (t.apply n ws).1.kc.length d1, .int .i64 (t.apply n ws).1.now], .int .i64 (t.apply n ws).2]) ∧ Fr No wr w3 ∧ Come w w3 sb bx s (t.apply n ws).1 R A1 c1 B1 d1 := by
  obtain ⟨⟨FS, FM, h1, h2, h3, h4⟩, h5, h6⟩ := h
  obtain ⟨A, c, B, d, h8, h7⟩ := h2.box
  refine ⟨A, c, B, d, h8, (ref_apply (e := c') n h7 ht hm hb hl hk).mono ?_⟩
  rintro e w3 ⟨u, rfl, hv, hf⟩
  obtain ⟨A1, c1, B1, d1, rfl, hc⟩ := Mid.come (R := R) ⟨FS, h1, h2, h3, h4⟩ h5 h6 hf hv
  exact ⟨A1, c1, B1, d1, rfl, hf, hc⟩
end
end Go.Proofs.Ytkcppngopdiljaa
