/- Texts of this claim, one behind the other: Lib, Spec12, Sha. -/
import Derived.WalkKit
import Derived.WalkSpells
import Derived.WalkLawsBesides
import Derived.KernelRfl
import Derived.Below
import Derived.Deep.Draws
import Derived.Deep.AppendLies
import Derived.Maps.AppendAt
import Derived.Lib.Hide
import Derived.StillTailTactics
import Derived.Test.YtlmhphejgahfbaaGreatDoorProg
import Derived.Deep.QuietTactic
import Derived.BigQuiet
import Derived.Deep.RegionHeld3
import Derived.IntWalk
/- A small library for walks over memory: frames by sets of blocks, kinds of data that lie in memory, slices that are read, slices that a call owns. -/
set_option linter.unusedVariables false
set_option linter.unusedSimpArgs false
namespace Go.Proofs.YtlmhphejgahfbaaGreatDoor
open Go.RowKit

/-! ### 1. Frames -/
/-- What lay in w outside F lies so in w'. -/
structure Fr (F : Nat → Prop) (w w' : World) : Prop where
  os : w'.os = w.os
  tape : w'.tape = w.tape
  output : w'.output = w.output
  size : w.heap.size ≤ w'.heap.size
  block : ∀ k, k < w.heap.size → ¬ F k → w'.heap[k]? = w.heap[k]?

def No : Nat → Prop := fun _ => False

theorem Fr.refl (F : Nat → Prop) (w : World) : Fr F w w := ⟨rfl, rfl, rfl, Nat.le_refl _, fun _ _ _ => rfl⟩
theorem Fr.mono {F G : Nat → Prop} {w w' : World} (h : Fr F w w') (k : ∀ i, i < w.heap.size → F i → G i) : Fr G w w' :=
  ⟨h.os, h.tape, h.output, h.size, fun i hi hn => h.block i hi (fun hf => hn (k i hi hf))⟩
theorem Fr.trans {F : Nat → Prop} {a b c : World} (h : Fr F a b) (k : Fr (fun i => F i ∨ a.heap.size ≤ i) b c) : Fr F a c :=
  ⟨k.os.trans h.os, k.tape.trans h.tape, k.output.trans h.output, Nat.le_trans h.size k.size,
   fun i hi hn => (k.block i (Nat.lt_of_lt_of_le hi h.size) (by rintro (hf | hf); exact hn hf; omega)).trans (h.block i hi hn)⟩
theorem Fr.below {w w' : World} (h : Below w.heap.size w w') : Fr No w w' := ⟨h.os, h.tape, h.output, h.size, fun i hi _ => h.block i hi⟩
theorem Fr.to_below {w w' : World} (h : Fr No w w') : Below w.heap.size w w' := ⟨h.os, h.tape, h.output, h.size, fun i hi => h.block i hi (fun f => f)⟩
theorem Fr.to_belowB {F : Nat → Prop} {B : Nat} {w w' : World} (h : Fr F w w') (hB : B ≤ w.heap.size) (hF : ∀ i, i < B → ¬ F i) : Below B w w' := ⟨h.os, h.tape, h.output, h.size, fun i hi => h.block i (by omega) (hF i hi)⟩
theorem Fr.alloc {F : Nat → Prop} {w W : World} (h : Fr F w W) (o : Obj) : Fr F w (W.alloc o) :=
  h.trans ⟨rfl, rfl, rfl, by simp, fun i hi _ => Below.heap_alloc _ _ _ hi⟩
theorem Fr.drew {F : Nat → Prop} {w W : World} (h : Fr F w W) : Fr F w W.drew := ⟨h.os, h.tape, h.output, h.size, h.block⟩
theorem Fr.drewN {F : Nat → Prop} {w W : World} (h : Fr F w W) (n : Nat) : Fr F w (W.drewN n) := ⟨h.os, h.tape, h.output, h.size, h.block⟩
theorem Fr.set {F : Nat → Prop} {w W : World} (h : Fr F w W) (p : Addr) (hp : F p.block ∨ w.heap.size ≤ p.block) (u : Value) : Fr F w (W.setCell p u) :=
  h.trans ⟨rfl, rfl, rfl, by simp [World.setCell], fun i _ hn => Below.heap_setCell _ _ _ _ (by rintro rfl; exact hn hp)⟩
theorem Fr.grown {F : Nat → Prop} {w W W' : World} (h : Fr F w W) {row : Option Nat} (g : W.grownBy W' row) (hr : ∀ k, row = some k → F k ∨ w.heap.size ≤ k) : Fr F w W' :=
  h.trans ⟨g.os, g.tape, g.output, g.size, fun i hi hn => g.block i hi (by intro he; exact hn (hr i he.symm))⟩
theorem Fr.cell {F : Nat → Prop} {w w' : World} (h : Fr F w w') {a : Addr} {v : Value} (hc : w.cell? a = some v) (hn : ¬ F a.block) : w'.cell? a = some v :=
  (World.cell?_of_block (h.block _ (World.block_lt_of_cell? w a hc) hn)).trans hc
theorem Fr.blk {F : Nat → Prop} {w w' : World} (h : Fr F w w') {b : Nat} {o : Obj} (hc : w.heap[b]? = some o) (hn : ¬ F b) : w'.heap[b]? = some o :=
  (h.block _ (Array.getElem?_eq_some_iff.1 hc).1 hn).trans hc

/-- The walk's own two rules behind a call that turns no old block. -/
theorem bcell {W w1 : World} (hb : Fr No W w1) : (∀ b o, b < W.heap.size → w1.cell? ⟨b, o, none⟩ = W.cell? ⟨b, o, none⟩) ∧ (∀ b o, b < W.heap.size → w1.frozen? ⟨b, o, none⟩ = W.frozen? ⟨b, o, none⟩) :=
  ⟨fun b o h => hb.to_below.cell (p := ⟨b, o, none⟩) h, fun b o h => hb.to_below.frozen (p := ⟨b, o, none⟩) h⟩

theorem blk_lt {w : World} {b : Nat} {o : Obj} (hc : w.heap[b]? = some o) : b < w.heap.size := (Array.getElem?_eq_some_iff.1 hc).1
theorem blk_cell {w : World} {g : Nat} {t : TypeId} {cs : Array Value} {fr : Nat × Nat} (h : w.heap[g]? = some (.cells cs t fr)) (i : Nat) : w.cell? ⟨g, i, none⟩ = cs[i]? := cell_of_row w g i cs t fr h
theorem blk_frozen {w : World} {g : Nat} {t : TypeId} {cs : Array Value} (h : w.heap[g]? = some (.cells cs t (0, 0))) (i : Nat) : w.frozen? ⟨g, i, none⟩ = false := by simp [World.frozen?, h]
theorem blk_set {w : World} {g : Nat} {t : TypeId} {cs : Array Value} {fr : Nat × Nat} (h : w.heap[g]? = some (.cells cs t fr)) (i : Nat) (u : Value) :
    (w.setCell ⟨g, i, none⟩ u).heap[g]? = some (.cells (cs.setIfInBounds i u) t fr) := by
  simp [World.setCell, Array.getElem?_modify, h]
theorem blk_far {w : World} {g : Nat} {o : Obj} (h : w.heap[g]? = some o) {p : Addr} (hp : g ≠ p.block) (u : Value) : (w.setCell p u).heap[g]? = some o :=
  (Below.heap_setCell _ _ _ _ hp).trans h
theorem cell_alloc {w : World} {a : Addr} {v : Value} (h : w.cell? a = some v) (o : Obj) : (w.alloc o).cell? a = some v := (World.cell?_alloc_lt _ _ _ (World.block_lt_of_cell? w a h)).trans h
theorem add0 (g j : Nat) : (⟨g, 0, none⟩ : Addr).add j = ⟨g, j, none⟩ := by unfold Addr.add; split <;> simp_all
theorem add_block (a : Addr) (j : Nat) : (a.add j).block = a.block := by unfold Addr.add; split <;> rfl

theorem cell_two1 (w : World) (u : Value) (t : TypeId) (o : Obj) : ((w.alloc (.cells #[u] t)).alloc o).cell? ⟨w.heap.size, 0, none⟩ = some u := by
  rw [World.cell?_alloc_lt _ _ _ (by simp)]; simp
theorem cell_two2 (w : World) (o : Obj) (u : Value) (t : TypeId) : ((w.alloc o).alloc (.cells #[u] t)).cell? ⟨w.heap.size + 1, 0, none⟩ = some u := by
  have := World.cell?_alloc_new (w.alloc o) #[u] t 0
  rw [World.size_alloc] at this
  exact this

/-! ### 2. Kinds of data that lie in cells -/
/-- How an x lies in cells; F bounds the blocks to which they lead. -/
structure Ty (α : Type) where
  sz : Nat
  K : World → (Nat → Prop) → α → List Value → Prop
  len : ∀ {w F x cs}, K w F x cs → cs.length = sz
  one : ∀ {w F x cs}, K w F x cs → ∀ u ∈ cs, u.oneCell' = true
  stab : ∀ {w w' F x cs}, K w F x cs → (∀ k, F k → k < w.heap.size → w'.heap[k]? = w.heap[k]?) → K w' F x cs
  mono : ∀ {w F G x cs}, K w F x cs → (∀ k, F k → k < w.heap.size → G k) → K w G x cs

/-- Elements one behind the other. -/
def Row {α : Type} (t : Ty α) (w : World) (F : Nat → Prop) : List α → List Value → Prop
  | [], cs => cs = []
  | x :: xs, cs => ∃ c d, cs = c ++ d ∧ t.K w F x c ∧ Row t w F xs d

section
variable {α : Type} {t : Ty α} {w w' : World} {F G : Nat → Prop} {xs ys : List α} {cs ds : List Value}
theorem Row.len (h : Row t w F xs cs) : cs.length = xs.length * t.sz := by
  induction xs generalizing cs with
  | nil => obtain rfl : cs = [] := h; simp
  | cons x xs ih => obtain ⟨c, d, rfl, h1, h2⟩ := h; rw [List.length_append, t.len h1, ih h2, List.length_cons, Nat.add_mul]; omega
theorem Row.one (h : Row t w F xs cs) : ∀ u ∈ cs, u.oneCell' = true := by
  induction xs generalizing cs with
  | nil => obtain rfl : cs = [] := h; simp
  | cons x xs ih =>
    obtain ⟨c, d, rfl, h1, h2⟩ := h
    intro u hu
    rcases List.mem_append.1 hu with hu | hu
    · exact t.one h1 u hu
    · exact ih h2 u hu
theorem Row.imp (h : Row t w F xs cs) (k : ∀ x c, t.K w F x c → t.K w' G x c) : Row t w' G xs cs := by
  induction xs generalizing cs with
  | nil => exact h
  | cons x xs ih => obtain ⟨c, d, rfl, h1, h2⟩ := h; exact ⟨c, d, rfl, k _ _ h1, ih h2⟩
theorem Row.stab (h : Row t w F xs cs) (k : ∀ k, F k → k < w.heap.size → w'.heap[k]? = w.heap[k]?) : Row t w' F xs cs := h.imp fun _ _ hk => t.stab hk k
theorem Row.mono (h : Row t w F xs cs) (k : ∀ k, F k → k < w.heap.size → G k) : Row t w G xs cs := h.imp fun _ _ hk => t.mono hk k
theorem Row.append (h : Row t w F xs cs) (k : Row t w F ys ds) : Row t w F (xs ++ ys) (cs ++ ds) := by
  induction xs generalizing cs with
  | nil => obtain rfl : cs = [] := h; simpa using k
  | cons x xs ih => obtain ⟨c, d, rfl, h1, h2⟩ := h; exact ⟨c, d ++ ds, by simp, h1, ih h2⟩
theorem Row.single {x : α} {c : List Value} (h : t.K w F x c) : Row t w F [x] c := ⟨c, [], by simp, h, rfl⟩
theorem Row.get (h : Row t w F xs cs) {i : Nat} (hi : i < xs.length) : ∃ c, t.K w F xs[i] c ∧ ∀ j, j < t.sz → cs[i * t.sz + j]? = c[j]? := by
  induction xs generalizing cs i with
  | nil => simp at hi
  | cons x xs ih =>
    obtain ⟨c, d, rfl, h1, h2⟩ := h
    cases i with
    | zero =>
      refine ⟨c, h1, fun j hj => ?_⟩
      rw [Nat.zero_mul, Nat.zero_add, List.getElem?_append_left (by rw [t.len h1]; exact hj)]
    | succ i =>
      obtain ⟨c', h3, h4⟩ := ih h2 (i := i) (by simpa using hi)
      refine ⟨c', h3, fun j hj => ?_⟩
      have e : (i + 1) * t.sz + j = c.length + (i * t.sz + j) := by rw [t.len h1, Nat.add_mul]; omega
      rw [e, List.getElem?_append_right (by omega), Nat.add_sub_cancel_left]
      exact h4 j hj
theorem Row.take (h : Row t w F xs cs) (n : Nat) : Row t w F (xs.take n) (cs.take (n * t.sz)) := by
  induction xs generalizing cs n with
  | nil => obtain rfl : cs = [] := h; simp [Row]
  | cons x xs ih =>
    obtain ⟨c, d, rfl, h1, h2⟩ := h
    cases n with
    | zero => simp [Row]
    | succ n =>
      refine ⟨c, d.take (n * t.sz), ?_, h1, ih h2 n⟩
      have e : (n + 1) * t.sz = c.length + n * t.sz := by rw [t.len h1, Nat.add_mul]; omega
      rw [e, List.take_length_add_append]
theorem Row.drop (h : Row t w F xs cs) (n : Nat) : Row t w F (xs.drop n) (cs.drop (n * t.sz)) := by
  induction xs generalizing cs n with
  | nil => obtain rfl : cs = [] := h; simp [Row]
  | cons x xs ih =>
    obtain ⟨c, d, rfl, h1, h2⟩ := h
    cases n with
    | zero => rw [List.drop_zero, Nat.zero_mul, List.drop_zero]; exact ⟨c, d, rfl, h1, h2⟩
    | succ n =>
      have e : (n + 1) * t.sz = c.length + n * t.sz := by rw [t.len h1, Nat.add_mul]; omega
      rw [e, List.drop_length_add_append]
      exact ih h2 n
end

/-- A slice's cells read so; F bounds the blocks to which they lead, its own too. -/
def Rd {α : Type} (t : Ty α) (w : World) (F : Nat → Prop) (A : Option Addr) (xs : List α) : Prop :=
  xs.length ≤ 9223372036854775807 ∧ ∃ cs, Row t w F xs cs ∧ ∀ j u, cs[j]? = some u → ∃ ad, A = some ad ∧ F ad.block ∧ w.cell? (ad.add j) = some u

section
variable {α : Type} {t : Ty α} {w w' : World} {F G : Nat → Prop} {A : Option Addr} {xs : List α}
theorem Rd.stab (h : Rd t w F A xs) (k : ∀ k, F k → k < w.heap.size → w'.heap[k]? = w.heap[k]?) : Rd t w' F A xs := by
  obtain ⟨h0, cs, h1, h2⟩ := h
  refine ⟨h0, cs, h1.stab k, fun j u hu => ?_⟩
  obtain ⟨ad, e, hf, hc⟩ := h2 j u hu
  exact ⟨ad, e, hf, (World.cell?_of_block (a := ad.add j) (k _ (by rw [add_block]; exact hf) (World.block_lt_of_cell? w _ hc))).trans hc⟩
theorem Rd.mono (h : Rd t w F A xs) (k : ∀ k, F k → k < w.heap.size → G k) : Rd t w G A xs := by
  obtain ⟨h0, cs, h1, h2⟩ := h
  refine ⟨h0, cs, h1.mono k, fun j u hu => ?_⟩
  obtain ⟨ad, e, hf, hc⟩ := h2 j u hu
  exact ⟨ad, e, k _ hf (by have := World.block_lt_of_cell? w _ hc; rwa [add_block] at this), hc⟩
theorem Rd.fr {S : Nat → Prop} (h : Rd t w F A xs) (f : Fr S w w') (hd : ∀ k, F k → ¬ S k) : Rd t w' F A xs := h.stab fun k hk hl => f.block k hl (hd k hk)
theorem Rd.fr0 (h : Rd t w F A xs) (f : Fr No w w') : Rd t w' F A xs := h.stab fun k hk hl => f.block k hl (fun f => f)
theorem Rd.nil : Rd t w F A ([] : List α) := ⟨by simp, [], rfl, fun j u hu => by simp at hu⟩
theorem Rd.get (h : Rd t w F A xs) {i : Nat} (hi : i < xs.length) (hz : 0 < t.sz) : ∃ ad c, A = some ad ∧ F ad.block ∧ t.K w F xs[i] c ∧ ∀ j u, c[j]? = some u → w.cell? (ad.add (i * t.sz + j)) = some u := by
  obtain ⟨h0, cs, h1, h2⟩ := h
  obtain ⟨c, h3, h4⟩ := h1.get hi
  have hl := t.len h3
  obtain ⟨ad, e, hf, _⟩ := h2 (i * t.sz + 0) (c[0]'(by omega)) (by rw [h4 0 hz]; exact List.getElem?_eq_getElem _)
  refine ⟨ad, c, e, hf, h3, fun j u hu => ?_⟩
  have hj : j < t.sz := by have := (List.getElem?_eq_some_iff.1 hu).1; omega
  obtain ⟨ad', e', _, hc⟩ := h2 (i * t.sz + j) u ((h4 j hj).trans hu)
  obtain rfl : ad' = ad := by rw [e] at e'; exact (Option.some.inj e').symm
  exact hc
theorem Rd.take (h : Rd t w F A xs) (n : Nat) : Rd t w F A (xs.take n) := by
  obtain ⟨h0, cs, h1, h2⟩ := h
  refine ⟨Nat.le_trans (List.length_take_le' n xs) h0, _, h1.take n, fun j u hu => h2 j u ?_⟩
  rw [List.getElem?_take] at hu
  split at hu
  · exact hu
  · cases hu
theorem add_add (a : Addr) (i j : Nat) : (a.add i).add j = a.add (i + j) := by
  unfold Addr.add
  by_cases h1 : i = 0 <;> by_cases h2 : j = 0 <;> simp [h1, h2, Nat.add_assoc]
theorem Rd.drop (h : Rd t w F A xs) (n : Nat) : Rd t w F (A.map (·.add (n * t.sz))) (xs.drop n) := by
  obtain ⟨h0, cs, h1, h2⟩ := h
  refine ⟨by simp; omega, _, h1.drop n, fun j u hu => ?_⟩
  rw [List.getElem?_drop] at hu
  obtain ⟨ad, e, hf, hc⟩ := h2 _ u hu
  exact ⟨ad.add (n * t.sz), by simp [e], by rw [add_block]; exact hf, by rw [add_add]; exact hc⟩
end

/-- A slice of the call's own (or of an object's): it may be appended to. F bounds all its blocks; e: the element's type. -/
def Ow {α : Type} (t : Ty α) (e : TypeId) (w : World) (F : Nat → Prop) (v : Value) (xs : List α) : Prop :=
  ∃ cs, w.ownsRow 0 e t.sz v xs.length cs ∧ Row t w (fun k => F k ∧ v.ownBlock ≠ some k) xs cs ∧ ∀ k, v.ownBlock = some k → F k

section
variable {α : Type} {t : Ty α} {e : TypeId} {w w' : World} {F G : Nat → Prop} {v : Value} {xs : List α}
theorem Ow.nil : Ow t e w F (.slice none 0 0) ([] : List α) := ⟨[], World.ownsRow_nil w 0 e t.sz, rfl, fun k hk => by simp [Value.ownBlock] at hk⟩
theorem Ow.stab (h : Ow t e w F v xs) (k : ∀ k, F k → k < w.heap.size → w'.heap[k]? = w.heap[k]?) : Ow t e w' F v xs := by
  obtain ⟨cs, h1, h2, h3⟩ := h
  refine ⟨cs, ⟨h1.1, ?_⟩, h2.stab fun i hi hl => k i hi.1 hl, h3⟩
  rcases h1.2 with h4 | ⟨g, cap, cur, rfl, hb, hg, r⟩
  · exact .inl h4
  · exact .inr ⟨g, cap, cur, rfl, hb, (k g (h3 g rfl) (blk_lt hg)).trans hg, r⟩
theorem Ow.fr {S : Nat → Prop} (h : Ow t e w F v xs) (f : Fr S w w') (hd : ∀ k, F k → ¬ S k) : Ow t e w' F v xs := h.stab fun k hk hl => f.block k hl (hd k hk)
theorem Ow.fr0 (h : Ow t e w F v xs) (f : Fr No w w') : Ow t e w' F v xs := h.stab fun k hk hl => f.block k hl (fun f => f)
theorem Ow.mono (h : Ow t e w F v xs) (k : ∀ k, F k → k < w.heap.size → G k) : Ow t e w G v xs := by
  obtain ⟨cs, h1, h2, h3⟩ := h
  refine ⟨cs, h1, h2.mono fun i hi hl => ⟨k i hi.1 hl, hi.2⟩, fun i hi => k i (h3 i hi) ?_⟩
  exact (h1.lt i hi).2
theorem Ow.slice (h : Ow t e w F v xs) : ∃ A c, v = .slice A xs.length c ∧ xs.length ≤ c ∧ Rd t w F A xs := by
  obtain ⟨cs, h1, h2, h3⟩ := h
  rcases h1.2 with ⟨rfl, h4⟩ | ⟨g, cap, cur, rfl, hb, hg, hn, hm, hs, ht⟩
  · obtain rfl := List.eq_nil_of_length_eq_zero h4
    exact ⟨none, 0, rfl, by simp, Rd.nil⟩
  · refine ⟨_, cap, rfl, hn, by unfold maxLen at hm; omega, cs, h2.mono fun i hi _ => hi.1, fun j u hu => ⟨_, rfl, h3 g rfl, h1.cells (g := g) rfl j u hu⟩⟩
/-- What is known of an owned slice that is no longer appended to. -/
theorem Ow.rd {A : Option Addr} {n c : Nat} (h : Ow t e w F (.slice A n c) xs) : n = xs.length ∧ n ≤ c ∧ Rd t w F A xs := by
  obtain ⟨A', c', he, h1, h2⟩ := h.slice
  injection he with e1 e2 e3
  subst e1; subst e2; subst e3
  exact ⟨rfl, h1, h2⟩
theorem Ow.own {k : Nat} (h : Ow t e w F v xs) (hk : v.ownBlock = some k) : F k ∧ k < w.heap.size := by
  obtain ⟨cs, h1, h2, h3⟩ := h
  exact ⟨h3 k hk, (h1.lt k hk).2⟩
end

theorem add_field (ad : Addr) (m j : Nat) (hj : 0 < j) : ad.add (m + j) = ⟨(ad.add m).block, (ad.add m).off + j, none⟩ := by
  unfold Addr.add
  by_cases hm : m = 0 <;> simp [hm, Nat.add_assoc] <;> omega
/-- The cells of one element, as the walk spells them: its first one, and any other. -/
theorem Rd.get' {α : Type} {t : Ty α} {w : World} {F : Nat → Prop} {A : Option Addr} {xs : List α} (h : Rd t w F A xs) {i : Nat} (hi : i < xs.length) (hz : 0 < t.sz) :
    ∃ ad c, A = some ad ∧ t.K w F xs[i] c ∧ (∀ u, c[0]? = some u → w.cell? (ad.add (i * t.sz)) = some u) ∧
      ∀ j u, 0 < j → c[j]? = some u → w.cell? ⟨(ad.add (i * t.sz)).block, (ad.add (i * t.sz)).off + j, none⟩ = some u := by
  obtain ⟨ad, c, e, _, hk, hc⟩ := h.get hi hz
  exact ⟨ad, c, e, hk, fun u hu => hc 0 u hu, fun j u hj hu => by rw [← add_field _ _ _ hj]; exact hc j u hu⟩

/-! ### 3. The kinds -/
def Ty.int (k : IntKind) : Ty Int where
  sz := 1
  K := fun _ _ x cs => cs = [.int k x]
  len := by rintro _ _ _ _ rfl; rfl
  one := by rintro _ _ _ _ rfl u hu; simp at hu; subst hu; rfl
  stab := fun h _ => h
  mono := fun h _ => h
def Ty.u8 : Ty UInt8 where
  sz := 1
  K := fun _ _ x cs => cs = [.int .u8 x.toNat]
  len := by rintro _ _ _ _ rfl; rfl
  one := by rintro _ _ _ _ rfl u hu; simp at hu; subst hu; rfl
  stab := fun h _ => h
  mono := fun h _ => h
def Ty.bool : Ty Bool where
  sz := 1
  K := fun _ _ x cs => cs = [.bool x]
  len := by rintro _ _ _ _ rfl; rfl
  one := by rintro _ _ _ _ rfl u hu; simp at hu; subst hu; rfl
  stab := fun h _ => h
  mono := fun h _ => h
def Ty.str : Ty ByteArray where
  sz := 1
  K := fun _ _ x cs => cs = [.string x]
  len := by rintro _ _ _ _ rfl; rfl
  one := by rintro _ _ _ _ rfl u hu; simp at hu; subst hu; rfl
  stab := fun h _ => h
  mono := fun h _ => h
/-- A slice that is read. -/
def Ty.slice {α : Type} (t : Ty α) : Ty (List α) where
  sz := 1
  K := fun w F xs cs => ∃ A c, cs = [.slice A xs.length c] ∧ xs.length ≤ c ∧ Rd t w F A xs
  len := by rintro _ _ _ _ ⟨_, _, rfl, _⟩; rfl
  one := by rintro _ _ _ _ ⟨_, _, rfl, _⟩ u hu; simp at hu; subst hu; rfl
  stab := by rintro _ _ _ _ _ ⟨A, c, rfl, h1, h2⟩ h; exact ⟨A, c, rfl, h1, h2.stab h⟩
  mono := by rintro _ _ _ _ _ ⟨A, c, rfl, h1, h2⟩ h; exact ⟨A, c, rfl, h1, h2.mono h⟩
def Ty.pair {α β : Type} (s : Ty α) (t : Ty β) : Ty (α × β) where
  sz := s.sz + t.sz
  K := fun w F x cs => ∃ c d, cs = c ++ d ∧ s.K w F x.1 c ∧ t.K w F x.2 d
  len := by rintro _ _ _ _ ⟨c, d, rfl, h1, h2⟩; rw [List.length_append, s.len h1, t.len h2]
  one := by
    rintro _ _ _ _ ⟨c, d, rfl, h1, h2⟩ u hu
    rcases List.mem_append.1 hu with hu | hu
    · exact s.one h1 u hu
    · exact t.one h2 u hu
  stab := by rintro _ _ _ _ _ ⟨c, d, rfl, h1, h2⟩ h; exact ⟨c, d, rfl, s.stab h1 h, t.stab h2 h⟩
  mono := by rintro _ _ _ _ _ ⟨c, d, rfl, h1, h2⟩ h; exact ⟨c, d, rfl, s.mono h1 h, t.mono h2 h⟩
def Ty.iso {α β : Type} (t : Ty β) (f : α → β) : Ty α where
  sz := t.sz
  K := fun w F x cs => t.K w F (f x) cs
  len := fun h => t.len h
  one := fun h => t.one h
  stab := fun h k => t.stab h k
  mono := fun h k => t.mono h k

/-! ### 4. append -/
/-- Cells that are read at A, wherever they lie. -/
def At (w : World) (A : Option Addr) (cs : List Value) : Prop := ∀ j u, cs[j]? = some u → ∃ ad, A = some ad ∧ w.cell? (ad.add j) = some u
theorem At.block {w : World} {b : Nat} {cs : Array Value} {t : TypeId} {fr : Nat × Nat} (hb : w.heap[b]? = some (.cells cs t fr)) : At w (some ⟨b, 0, none⟩) cs.toList :=
  fun j u hu => ⟨_, rfl, World.news_of_block hb j u hu⟩
theorem Rd.at {α : Type} {t : Ty α} {w : World} {F : Nat → Prop} {A : Option Addr} {xs : List α} (h : Rd t w F A xs) : ∃ cs, Row t w F xs cs ∧ At w A cs := by
  obtain ⟨_, cs, h1, h2⟩ := h
  exact ⟨cs, h1, fun j u hu => by obtain ⟨ad, e, _, hc⟩ := h2 j u hu; exact ⟨ad, e, hc⟩⟩

theorem run_append_of_nil {P : Program} (w : World) (base : Nat) (t ty e : TypeId) (i : TypeInfo) (size : Nat) (ht : P.underlying t = some (.slice e)) (hi : P.info? e = some i)
    (v : Value) (n : Nat) (xs : List Value) (hown : w.ownsRow base e size v n xs) (A : Option Addr) (c : Nat) (hn : i.size = size) : (Builtin.append_ #[t, t] ty #[v, .slice A 0 c]).run P w = .ok v w := by
  have hf : (Builtin.firstCells i.size 0 (.slice A 0 c)).run P w = .ok #[] w := by
    cases A <;> simp [Builtin.firstCells, loadCells, loadCellsFrom]
  rcases hown.2 with ⟨rfl, rfl⟩ | ⟨g, cap, cur, rfl, _, _, hnc, _⟩
  · simp [Builtin.append_, run_underlying ht, sizeOf, typeInfo, hi, Builtin.lenOf, hf]
  · simp [Builtin.append_, run_underlying ht, sizeOf, typeInfo, hi, Builtin.lenOf, hf, hnc, storeCells]

section
variable {P : Program} {ops : Array Oper} {rest : List Oper} {o : Oper} {a : Act} {Q : Exit → Act → World → Prop}

/-- append(v, x...) as one run: v owned, x read. -/
theorem run_ow_append {α : Type} (t : Ty α) {W : World} {F : Nat → Prop} {v : Value} {xs ys : List α} {e ty ty' : TypeId} (HO : Ow t e W F v xs) (z : Value) (bytes : Nat)
    (ht : P.underlying ty = some (.slice e)) (hinfo : (P.info? e).map (fun i => (i.zero, i.size, i.bytes)) = some (some z, t.sz, bytes)) (hz : z.cells.size = t.sz) (hb0 : 0 < bytes) (hsz : 0 < t.sz)
    {A : Option Addr} (c : Nat) {cs : List Value} (hy : Row t W (fun i => F i ∧ v.ownBlock ≠ some i) ys cs) (hA : At W A cs) (hl : (xs.length + ys.length) * bytes ≤ 140737488355328) :
    ∃ A1 c1 w1, (Builtin.append_ #[ty, ty] ty' #[v, .slice A ys.length c]).run P W = .ok (.slice A1 (xs.length + ys.length) c1) w1 ∧
      Ow t e w1 (fun k => F k ∨ W.heap.size ≤ k) (.slice A1 (xs.length + ys.length) c1) (xs ++ ys) ∧ W.grownBy w1 v.ownBlock ∧
      ((Value.slice A1 (xs.length + ys.length) c1).ownBlock = v.ownBlock ∨ (Value.slice A1 (xs.length + ys.length) c1).ownBlock = some W.heap.size) := by
  obtain ⟨i0, hi, hzz⟩ := Option.map_eq_some_iff.1 hinfo
  simp only [Prod.mk.injEq] at hzz
  obtain ⟨hz0, hz1, hz2⟩ := hzz
  obtain ⟨c0, h1, h2, h3⟩ := HO
  have hlen : xs.length + ys.length ≤ 140737488355328 := Nat.le_trans (Nat.le_mul_of_pos_right _ hb0) hl
  have hcl := hy.len
  by_cases hm : ys.length = 0
  · obtain rfl := List.eq_nil_of_length_eq_zero hm
    obtain rfl : cs = [] := hy
    have hr := run_append_of_nil (P := P) W 0 ty ty' e i0 t.sz ht hi v xs.length c0 h1 A c hz1
    have HO' : Ow t e W F v xs := ⟨c0, h1, h2, h3⟩
    obtain ⟨A1, c1, rfl, _, _⟩ := HO'.slice
    refine ⟨A1, c1, W, hr, ?_, World.grownBy.refl W _, .inl rfl⟩
    simpa using HO'.mono fun k hk _ => .inl hk
  · obtain ⟨ad, rfl, _⟩ := hA 0 (cs[0]'(by rw [hcl]; exact Nat.mul_pos (by omega) hsz)) (List.getElem?_eq_getElem _)
    have hnews : ∀ j u, cs[j]? = some u → W.cell? (ad.add j) = some u := fun j u hu => by
      obtain ⟨ad', e', hc⟩ := hA j u hu
      obtain rfl := Option.some.inj e'
      exact hc
    obtain ⟨g, cap, w1, hr, hown, hg, hat⟩ := run_append_lies (P := P) W ty ty' 0 e i0 z t.sz bytes ht hi hz0 hz1 hz2 hz hsz v xs.length c0 h1 ad ys.length c cs hcl hnews hy.one (by omega) (by simp only [maxLen]; omega) hl (Nat.zero_le _) W.heap.size rfl
    have hat := hat.1
    have hst : ∀ k, (F k ∧ v.ownBlock ≠ some k) → k < W.heap.size → w1.heap[k]? = W.heap[k]? := fun k hk hl => hg.block k hl (fun e => hk.2 e.symm)
    have hgne : ∀ k, (F k ∧ v.ownBlock ≠ some k) → k < W.heap.size → (F k ∨ W.heap.size ≤ k) ∧ (Value.slice (some ⟨g, 0, none⟩) (xs.length + ys.length) cap).ownBlock ≠ some k := fun k hk hl => by
      refine ⟨.inl hk.1, fun he => ?_⟩
      obtain rfl : g = k := by simpa [Value.ownBlock] using he
      rcases hat with hat | hat
      · exact hk.2 hat
      · omega
    have r1 : Row t W (fun k => (F k ∧ v.ownBlock ≠ some k) ∧ k < W.heap.size) (xs ++ ys) (c0 ++ cs) := (h2.mono fun k hk hl => ⟨hk, hl⟩).append (hy.mono fun k hk hl => ⟨hk, hl⟩)
    have r2 := (r1.stab (w' := w1) (fun k hk _ => hst k hk.1 hk.2)).mono (fun k hk _ => hgne k hk.1 hk.2)
    refine ⟨some ⟨g, 0, none⟩, cap, w1, hr, ⟨c0 ++ cs, by simpa using hown, r2, fun k hk => ?_⟩, hg, ?_⟩
    · obtain rfl : g = k := by simpa [Value.ownBlock] using hk
      rcases hat with hat | hat
      · exact .inl (h3 _ hat)
      · exact .inr (by omega)
    · rcases hat with hat | hat
      · exact .inl (by rw [hat]; rfl)
      · exact .inr (by rw [← hat]; rfl)

theorem wp_append_run {w w1 : World} {K : Act → World → Prop} (s x : Operand) (ty ty' : TypeId) (ho : o.op = .call { callee := .builtin .append, args := #[s, x], argTypes := #[ty, ty'] })
    {vs vx v1 : Value} (hs : a.eval s = vs) (hx : a.eval x = vx) (hr : (Builtin.append_ #[ty, ty'] o.type #[vs, vx]).run P w = .ok v1 w1) (h : K (a.put o.dst v1) w1) : o.wp P a w K Q := by
  unfold Oper.wp execOp
  simp only [ho, resolve, invoke, builtin, Sem.run_bind, Sem.run_pure, Result.andThen_ok, List.map_toArray, List.map_cons, List.map_nil, hs, hx, hr]
  exact h

/-- append(v, x...) where the walk stands: behind 'at_builtin'. -/
theorem ow_append {α : Type} (t : Ty α) {W : World} {F : Nat → Prop} {v : Value} {xs ys : List α} {e ty : TypeId} (HO : Ow t e W F v xs) (s x : Operand) (z : Value) (bytes : Nat) (hgd : o.guard = none)
    (ho : o.op = .call { callee := .builtin .append, args := #[s, x], argTypes := #[ty, ty] })
    (ht : P.underlying ty = some (.slice e)) (hinfo : (P.info? e).map (fun i => (i.zero, i.size, i.bytes)) = some (some z, t.sz, bytes)) (hz : z.cells.size = t.sz) (hb0 : 0 < bytes) (hsz : 0 < t.sz)
    (hs : a.eval s = v) {A : Option Addr} {n c : Nat} {cs : List Value} (hx : a.eval x = .slice A n c) (hn : n = ys.length)
    (hy : Row t W (fun i => F i ∧ v.ownBlock ≠ some i) ys cs) (hA : At W A cs) (hl : (xs.length + ys.length) * bytes ≤ 140737488355328)
    (h : ∀ A1 c1 w1, Ow t e w1 (fun k => F k ∨ W.heap.size ≤ k) (.slice A1 (xs.length + ys.length) c1) (xs ++ ys) → W.grownBy w1 v.ownBlock →
      ((Value.slice A1 (xs.length + ys.length) c1).ownBlock = v.ownBlock ∨ (Value.slice A1 (xs.length + ys.length) c1).ownBlock = some W.heap.size) →
      wpList P ops Q rest (a.put o.dst (.slice A1 (xs.length + ys.length) c1)) w1) :
    wpList P ops Q (o :: rest) a W := by
  subst hn
  obtain ⟨A1, c1, w1, hr, h1, h2, h3⟩ := run_ow_append (P := P) (ty' := o.type) t HO z bytes ht hinfo hz hb0 hsz c hy hA hl
  exact wpList_plain hgd fun K hK => wp_append_run s x ty ty ho hs hx hr (hK _ _ (h A1 c1 w1 h1 h2 h3))

/-- The same at a step of a region that draws its order. -/
theorem ow_append_step {α : Type} (t : Ty α) {W : World} {F : Nat → Prop} {v : Value} {xs ys : List α} {e ty : TypeId} {K : Act → World → Prop} {E : Prop} (HO : Ow t e W F v xs) (s x : Operand) (z : Value) (bytes : Nat) (hgd : o.guard = none)
    (ho : o.op = .call { callee := .builtin .append, args := #[s, x], argTypes := #[ty, ty] })
    (ht : P.underlying ty = some (.slice e)) (hinfo : (P.info? e).map (fun i => (i.zero, i.size, i.bytes)) = some (some z, t.sz, bytes)) (hz : z.cells.size = t.sz) (hb0 : 0 < bytes) (hsz : 0 < t.sz)
    (hs : a.eval s = v) {A : Option Addr} {n c : Nat} {cs : List Value} (hx : a.eval x = .slice A n c) (hn : n = ys.length)
    (hy : Row t W (fun i => F i ∧ v.ownBlock ≠ some i) ys cs) (hA : At W A cs) (hl : (xs.length + ys.length) * bytes ≤ 140737488355328)
    (h : ∀ A1 c1 w1, Ow t e w1 (fun k => F k ∨ W.heap.size ≤ k) (.slice A1 (xs.length + ys.length) c1) (xs ++ ys) → W.grownBy w1 v.ownBlock →
      ((Value.slice A1 (xs.length + ys.length) c1).ownBlock = v.ownBlock ∨ (Value.slice A1 (xs.length + ys.length) c1).ownBlock = some W.heap.size) →
      K (a.put o.dst (.slice A1 (xs.length + ys.length) c1)) w1) :
    if Region.wanted o (yielded ops a.tmps) = true then Oper.wp P o a W K Q else E := by
  subst hn
  have hw : Region.wanted o (yielded ops a.tmps) = true := by simp [Region.wanted, hgd]
  rw [if_pos hw]
  obtain ⟨A1, c1, w1, hr, h1, h2, h3⟩ := run_ow_append (P := P) (ty' := o.type) t HO z bytes ht hinfo hz hb0 hsz c hy hA hl
  exact wp_append_run s x ty ty ho hs hx hr (h A1 c1 w1 h1 h2 h3)
end

/-- A region that draws its order, whose last operations are forced: the world behind the draw under its own name. -/
theorem still_tail {P : Program} {id : Nat} {Q : Exit → Act → World → Prop} {a : Act} {w : World} {l : List Oper} (n : Nat) (hm : P.follows .mixedOrders = true) (hB : Region.lexTailB .any l.toArray n = true)
    (h : wpStill P l.toArray w.drew (fun a' => wpList P l.toArray Q (l.drop n) a' w.drew) (l.take n) a) : (Code.region id l.toArray true).wp P Q a w := wp_region_still_tail n hm hB h

/-! ### 5. Reslicing -/
section
variable {P : Program}
theorem cut_lo {α : Type} (t : Ty α) (ty e : TypeId) (kl : IntKind) (ht : P.underlying ty = some (.slice e)) (hi : (P.info? e).map (·.size) = some t.sz) (A : Option Addr) (n c lo : Nat) (hlo : lo ≤ n) (hc : n ≤ c) :
    ∃ A', (∀ W : World, (Instr.slice ty (.slice A n c) (some (.int kl (lo : Int))) none none).run P W = .ok (.slice A' (n - lo) (c - lo)) W) ∧
      ∀ (w : World) (F : Nat → Prop) (xs : List α), xs.length = n → Rd t w F A xs → Rd t w F A' (xs.drop lo) := by
  obtain ⟨i0, hi0, hsz⟩ := Option.map_eq_some_iff.1 hi
  have hel : P.elem ty = e := by simp [Program.elem, ht]
  have hu : P.underlying ty = some (.slice (P.elem ty)) := by rw [hel]; exact ht
  refine ⟨if c = lo then A else A.map (·.add (lo * t.sz)), fun W => ?_, fun w F xs hx h => ?_⟩
  · rw [run_slice_l W ty A n c hu kl (lo : Int) (Int.natCast_nonneg _) (by omega), hel]
    simp [sizeOf, typeInfo, hi0, hsz, sliced, Result.andThen]
  · split
    · have : xs.drop lo = [] := List.drop_eq_nil_of_le (by omega)
      rw [this]
      exact Rd.nil
    · exact h.drop lo
theorem cut_hi {α : Type} (t : Ty α) (ty e : TypeId) (kh : IntKind) (ht : P.underlying ty = some (.slice e)) (hi : (P.info? e).map (·.size) = some t.sz) (A : Option Addr) (n c up : Nat) (hup : up ≤ n) (hc : n ≤ c) :
    ∃ A', (∀ W : World, (Instr.slice ty (.slice A n c) none (some (.int kh (up : Int))) none).run P W = .ok (.slice A' up c) W) ∧
      ∀ (w : World) (F : Nat → Prop) (xs : List α), xs.length = n → Rd t w F A xs → Rd t w F A' (xs.take up) := by
  obtain ⟨i0, hi0, hsz⟩ := Option.map_eq_some_iff.1 hi
  have hel : P.elem ty = e := by simp [Program.elem, ht]
  have hu : P.underlying ty = some (.slice (P.elem ty)) := by rw [hel]; exact ht
  refine ⟨if c = 0 then A else A.map (·.add (0 * t.sz)), fun W => ?_, fun w F xs hx h => ?_⟩
  · rw [run_slice_h W ty A n c hu kh (up : Int) (Int.natCast_nonneg _) (by omega), hel]
    simp [sizeOf, typeInfo, hi0, hsz, sliced, Result.andThen]
  · have e : A.map (·.add (0 * t.sz)) = A := by cases A <;> simp [Addr.add]
    rw [e]
    simpa using h.take up
theorem cut_mid {α : Type} (t : Ty α) (ty e : TypeId) (kl kh : IntKind) (ht : P.underlying ty = some (.slice e)) (hi : (P.info? e).map (·.size) = some t.sz) (A : Option Addr) (n c lo up : Nat) (hlo : lo ≤ up) (hup : up ≤ n) (hc : n ≤ c) :
    ∃ A', (∀ W : World, (Instr.slice ty (.slice A n c) (some (.int kl (lo : Int))) (some (.int kh (up : Int))) none).run P W = .ok (.slice A' (up - lo) (c - lo)) W) ∧
      ∀ (w : World) (F : Nat → Prop) (xs : List α), xs.length = n → Rd t w F A xs → Rd t w F A' ((xs.take up).drop lo) := by
  obtain ⟨i0, hi0, hsz⟩ := Option.map_eq_some_iff.1 hi
  have hel : P.elem ty = e := by simp [Program.elem, ht]
  have hu : P.underlying ty = some (.slice (P.elem ty)) := by rw [hel]; exact ht
  refine ⟨if c = lo then A else A.map (·.add (lo * t.sz)), fun W => ?_, fun w F xs hx h => ?_⟩
  · rw [run_slice_lh W ty A n c hu kl kh (lo : Int) (up : Int) (Int.natCast_nonneg _) (by omega) (by omega), hel]
    simp [sizeOf, typeInfo, hi0, hsz, sliced, Result.andThen]
  · split
    · have : (xs.take up).drop lo = [] := List.drop_eq_nil_of_le (by simp; omega)
      rw [this]
      exact Rd.nil
    · exact (h.take up).drop lo
end
end Go.Proofs.YtlmhphejgahfbaaGreatDoor
/- Layer 12 (chain): versions, and what is done with them, as plain functions. -/
set_option linter.unusedVariables false
namespace Go.Proofs.YtlmhphejgahfbaaGreatDoor

abbrev Bs := List UInt8
/-- A row, or that it is gone, from a number on. -/
structure Ver where
  at_ : Int
  row : Bs
  gone : Bool
/-- Versions, the oldest first, and the greatest number. -/
structure Chn where
  l : List Ver
  last : Int

namespace Chn
def empty : Chn := ⟨[], 0⟩
def put (c : Chn) (a : Int) (row : Bs) (gone : Bool) : Chn := ⟨c.l ++ [⟨a, row, gone⟩], a⟩
/-- How many aren't above a number (they rise). -/
def seen (c : Chn) (a : Int) : Nat := (c.l.takeWhile fun v => decide (v.at_ ≤ a)).length
def get (c : Chn) (a : Int) : Option Bs :=
  match c.l[c.seen a - 1]? with
  | some v => if c.seen a = 0 then none else if v.gone then none else some v.row
  | none => none
/-- How many are let go. -/
def cut (c : Chn) (a : Int) : Nat :=
  match c.l[c.seen a - 1]? with
  | some v => if c.seen a = 0 then 0 else if v.gone then c.seen a else c.seen a - 1
  | none => 0
def trim (c : Chn) (a : Int) : Chn := ⟨c.l.drop (c.cut a), c.last⟩
/-- Numbers rise, and none is above the greatest. -/
def Ok (c : Chn) : Prop := c.l.Pairwise (fun x y => x.at_ < y.at_) ∧ ∀ v ∈ c.l, v.at_ ≤ c.last
end Chn

def tVer : Ty Ver := Ty.iso (Ty.pair (Ty.int .i64) (Ty.pair (Ty.slice Ty.u8) Ty.bool)) fun x => (x.at_, x.row, x.gone)
theorem tVer_open {w : World} {F : Nat → Prop} {x : Ver} {cs : List Value} (h : tVer.K w F x cs) :
    ∃ A c, cs = [.int .i64 x.at_, .slice A x.row.length c, .bool x.gone] ∧ x.row.length ≤ c ∧ Rd Ty.u8 w F A x.row := by
  obtain ⟨_, _, rfl, rfl, _, _, rfl, ⟨A, c, rfl, h1, h2⟩, rfl⟩ := h
  exact ⟨A, c, rfl, h1, h2⟩
theorem tVer_mk {w : World} {F : Nat → Prop} {a : Int} {r : Bs} {g : Bool} {A : Option Addr} {c : Nat} (h1 : r.length ≤ c) (h2 : Rd Ty.u8 w F A r) :
    tVer.K w F ⟨a, r, g⟩ [.int .i64 a, .slice A r.length c, .bool g] :=
  ⟨_, [_, _], rfl, rfl, [_], [_], rfl, ⟨A, c, rfl, h1, h2⟩, rfl⟩
end Go.Proofs.YtlmhphejgahfbaaGreatDoor
/- SHA-256: words, and the functions on them: plain functions, and what the program's small functions compute. -/
set_option linter.unusedVariables false
set_option linter.unusedSimpArgs false
namespace Go.Proofs.YtlmhphejgahfbaaGreatDoor
open Go.RowKit

abbrev W32 := BitVec 32
/-- A word's number. -/
def U (x : W32) : Int := (x.toNat : Int)
theorem U_nonneg (x : W32) : 0 ≤ U x := Int.natCast_nonneg _
theorem U_lt (x : W32) : U x < 4294967296 := by have := x.isLt; unfold U; omega
theorem U_inj {x y : W32} (h : U x = U y) : x = y := BitVec.eq_of_toNat_eq (by unfold U at h; omega)
theorem wrap_u32 (x : Int) : IntKind.u32.wrap x = x % 4294967296 := by rfl
theorem U_ofInt (x : W32) : BitVec.ofInt 32 (U x) = x := by
  apply BitVec.eq_of_toNat_eq
  rw [BitVec.toNat_ofInt]
  unfold U
  have := x.isLt
  omega
theorem U_wrap (x : W32) : IntKind.u32.wrap (U x) = U x := by
  rw [wrap_u32]; have := U_nonneg x; have := U_lt x; omega
theorem U_add (x y : W32) : IntKind.u32.wrap (U x + U y) = U (x + y) := by
  rw [wrap_u32]; unfold U; rw [BitVec.toNat_add]; omega
theorem U_back (r : W32) : IntKind.u32.wrap (r.toNat : Int) = U r := U_wrap r
theorem U_xor (x y : W32) : bits .xor .u32 (U x) (U y) = U (x ^^^ y) := by
  show IntKind.u32.wrap (((BitVec.ofInt 32 (U x) ^^^ BitVec.ofInt 32 (U y) : W32)).toNat : Int) = _
  rw [U_ofInt, U_ofInt, U_back]
theorem U_and (x y : W32) : bits .and .u32 (U x) (U y) = U (x &&& y) := by
  show IntKind.u32.wrap (((BitVec.ofInt 32 (U x) &&& BitVec.ofInt 32 (U y) : W32)).toNat : Int) = _
  rw [U_ofInt, U_ofInt, U_back]
theorem U_or (x y : W32) : bits .or .u32 (U x) (U y) = U (x ||| y) := by
  show IntKind.u32.wrap (((BitVec.ofInt 32 (U x) ||| BitVec.ofInt 32 (U y) : W32)).toNat : Int) = _
  rw [U_ofInt, U_ofInt, U_back]
theorem U_shl (x : W32) (n : Nat) : IntKind.u32.wrap (U x * 2 ^ n) = U (x <<< n) := by
  rw [wrap_u32]
  unfold U
  rw [BitVec.toNat_shiftLeft, Nat.shiftLeft_eq, Int.natCast_emod, Int.natCast_mul, Int.natCast_pow]
  rfl
theorem U_shr (x : W32) (n : Nat) : (U x).fdiv (2 ^ n) = U (x >>> n) := by
  unfold U
  rw [BitVec.toNat_ushiftRight, Nat.shiftRight_eq_div_pow, Int.fdiv_eq_ediv_of_nonneg _ (Int.pow_nonneg (by omega)), Int.natCast_ediv, Int.natCast_pow]
  rfl
/-- To the right. -/
def rr (x : W32) (n : Nat) : W32 := (x >>> n) ||| (x <<< (32 - n))
theorem rr_or (x : W32) (n : Nat) : (x <<< (32 - n)) ||| (x >>> n) = rr x n := BitVec.or_comm _ _

/-- The turns that occur. -/
def turns : List (Int × Nat) := [(-2, 2), (-6, 6), (-7, 7), (-11, 11), (-13, 13), (-17, 17), (-18, 18), (-19, 19), (-22, 22), (-25, 25)]
theorem rot_gen (x y : W32) (k s u : Int) (n m : Nat) (h1 : bits .and .u64 (IntKind.u64.wrap k) 31 = s) (h2 : IntKind.u64.wrap (32 - s) = u) (hs : Op.shift .shl .u32 (U x) .u64 s = pure (.int .u32 (U (x <<< n)))) (ht : Op.shift .shr .u32 (U x) .u64 u = pure (.int .u32 (U (x >>> m))))
    (h3 : bits .or .u32 (U (x <<< n)) (U (x >>> m)) = U y) (w : World) : Calls Tryz.prog 204 #[.int .u32 (U x), .int .i64 k] w fun e w' => e = .returned (.int .u32 (U y)) ∧ w' = w := by
  go_enter Tryz.func204, Tryz.ntmps204
  go_wp2
  go_ret
  exact ⟨rfl, rfl⟩
theorem shift_shl (x : W32) (s : Int) (n : Nat) (h : s = n) (hn : n ≤ 32) : Op.shift .shl .u32 (U x) .u64 s = pure (.int .u32 (U (x <<< n))) := by
  subst h
  have : min ((n : Int).toNat) IntKind.u32.bits = n := by rw [Int.toNat_natCast]; exact Nat.min_eq_left hn
  simp only [Op.shift, this, U_shl]
  rw [if_neg (by omega)]
theorem shift_shr (x : W32) (s : Int) (n : Nat) (h : s = n) (hn : n ≤ 32) : Op.shift .shr .u32 (U x) .u64 s = pure (.int .u32 (U (x >>> n))) := by
  subst h
  have : min ((n : Int).toNat) IntKind.u32.bits = n := by rw [Int.toNat_natCast]; exact Nat.min_eq_left hn
  simp only [Op.shift, this, U_shr]
  rw [if_neg (by omega)]
theorem rot_ok (x : W32) (k : Int) (r : Nat) (h : (k, r) ∈ turns) (w : World) : Calls Tryz.prog 204 #[.int .u32 (U x), .int .i64 k] w fun e w' => e = .returned (.int .u32 (U (rr x r))) ∧ w' = w := by
  have hc : bits .and .u64 (IntKind.u64.wrap k) 31 = ((32 - r : Nat) : Int) ∧ IntKind.u64.wrap (32 - ((32 - r : Nat) : Int)) = (r : Int) ∧ r ≤ 32 := by
    revert h
    have : ∀ p ∈ turns, bits .and .u64 (IntKind.u64.wrap p.1) 31 = ((32 - p.2 : Nat) : Int) ∧ IntKind.u64.wrap (32 - ((32 - p.2 : Nat) : Int)) = (p.2 : Int) ∧ p.2 ≤ 32 := by decide
    exact this (k, r)
  exact rot_gen x _ k _ _ (32 - r) r hc.1 hc.2.1 (shift_shl x _ _ rfl (by omega)) (shift_shr x _ _ rfl hc.2.2) (by rw [U_or, rr_or]) w

theorem spread_ok (x l : W32) (a b : Int) (m n : Nat) (ha : (-a, m) ∈ turns) (hb : (-b, n) ∈ turns) (h1 : IntKind.i64.wrap (-a) = -a) (h2 : IntKind.i64.wrap (-b) = -b) (w : World) : Calls Tryz.prog 203 #[.int .u32 (U x), .int .i64 a, .int .i64 b, .int .u32 (U l)] w fun e w' => e = .returned (.int .u32 (U (rr x m ^^^ rr x n ^^^ l))) ∧ w' = w := by
  have H1 := Lib.hid (rot_ok x (-a) m ha)
  have H2 := Lib.hid (rot_ok x (-b) n hb)
  have h3 := U_xor (rr x m) (rr x n)
  have h4 := U_xor (rr x m ^^^ rr x n) l
  clear ha hb
  go_enter Tryz.func203, Tryz.ntmps203
  go_wp2_with fail
  refine (H1.out _).mono ?_
  rintro e w' ⟨rfl, rfl⟩
  go_wp2_with fail
  refine (H2.out _).mono ?_
  rintro e w' ⟨rfl, rfl⟩
  go_wp2_with fail
  go_ret
  exact ⟨rfl, rfl⟩
end Go.Proofs.YtlmhphejgahfbaaGreatDoor
