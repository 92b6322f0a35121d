/- Texts of this claim, one behind the other: Lib, Spec12, Chain, Ref1, Open, Spec01, Spec06, Map, Spec13, Chain3, Chain4, Right, Store, Keys, Store2, Store3, Store4, Store5, Store6, Spec13b, Spec06b, Open2, Spec14. -/
import Derived.WalkKit
import Derived.WalkSpells
import Derived.WalkLawsBesides
import Derived.KernelRfl
import Derived.Below
import Derived.Deep.Draws
import Derived.Deep.AppendLies
import Derived.Maps.AppendAt
import Derived.Lib.Hide
import Derived.StillTailTactics
import Derived.Test.YtkcppngopdiljaaProg
import Derived.Deep.QuietTactic
import Derived.BigQuiet
import Derived.Deep.RegionHeld3
import Derived.Deep.Slices
import Derived.Deep.Strs
import Derived.MapKept
import Derived.Maps.Own
import Derived.Deep.RegionLaw
import Derived.BigRegion
import Derived.Test.YtkcppngopdiljaaShelf
import Derived.Sort.KeysCollected
/- A small library for walks over memory: frames by sets of blocks, kinds of data that lie in memory, slices that are read, slices that a call owns. -/
set_option linter.unusedVariables false
set_option linter.unusedSimpArgs false
namespace Go.Proofs.Ytkcppngopdiljaa
open Go.RowKit

/-! ### 1. Frames -/
/-- What lay in w outside F lies so in w'. -/
structure Fr (F : Nat → Prop) (w w' : World) : Prop where
  os : w'.os = w.os
  tape : w'.tape = w.tape
  output : w'.output = w.output
  size : w.heap.size ≤ w'.heap.size
  block : ∀ k, k < w.heap.size → ¬ F k → w'.heap[k]? = w.heap[k]?

def No : Nat → Prop := fun _ => False

theorem Fr.refl (F : Nat → Prop) (w : World) : Fr F w w := ⟨rfl, rfl, rfl, Nat.le_refl _, fun _ _ _ => rfl⟩
theorem Fr.mono {F G : Nat → Prop} {w w' : World} (h : Fr F w w') (k : ∀ i, i < w.heap.size → F i → G i) : Fr G w w' :=
  ⟨h.os, h.tape, h.output, h.size, fun i hi hn => h.block i hi (fun hf => hn (k i hi hf))⟩
theorem Fr.trans {F : Nat → Prop} {a b c : World} (h : Fr F a b) (k : Fr (fun i => F i ∨ a.heap.size ≤ i) b c) : Fr F a c :=
  ⟨k.os.trans h.os, k.tape.trans h.tape, k.output.trans h.output, Nat.le_trans h.size k.size,
   fun i hi hn => (k.block i (Nat.lt_of_lt_of_le hi h.size) (by rintro (hf | hf); exact hn hf; omega)).trans (h.block i hi hn)⟩
theorem Fr.below {w w' : World} (h : Below w.heap.size w w') : Fr No w w' := ⟨h.os, h.tape, h.output, h.size, fun i hi _ => h.block i hi⟩
theorem Fr.to_below {w w' : World} (h : Fr No w w') : Below w.heap.size w w' := ⟨h.os, h.tape, h.output, h.size, fun i hi => h.block i hi (fun f => f)⟩
theorem Fr.to_belowB {F : Nat → Prop} {B : Nat} {w w' : World} (h : Fr F w w') (hB : B ≤ w.heap.size) (hF : ∀ i, i < B → ¬ F i) : Below B w w' := ⟨h.os, h.tape, h.output, h.size, fun i hi => h.block i (by omega) (hF i hi)⟩
theorem Fr.alloc {F : Nat → Prop} {w W : World} (h : Fr F w W) (o : Obj) : Fr F w (W.alloc o) :=
  h.trans ⟨rfl, rfl, rfl, by simp, fun i hi _ => Below.heap_alloc _ _ _ hi⟩
theorem Fr.drew {F : Nat → Prop} {w W : World} (h : Fr F w W) : Fr F w W.drew := ⟨h.os, h.tape, h.output, h.size, h.block⟩
theorem Fr.drewN {F : Nat → Prop} {w W : World} (h : Fr F w W) (n : Nat) : Fr F w (W.drewN n) := ⟨h.os, h.tape, h.output, h.size, h.block⟩
theorem Fr.set {F : Nat → Prop} {w W : World} (h : Fr F w W) (p : Addr) (hp : F p.block ∨ w.heap.size ≤ p.block) (u : Value) : Fr F w (W.setCell p u) :=
  h.trans ⟨rfl, rfl, rfl, by simp [World.setCell], fun i _ hn => Below.heap_setCell _ _ _ _ (by rintro rfl; exact hn hp)⟩
theorem Fr.grown {F : Nat → Prop} {w W W' : World} (h : Fr F w W) {row : Option Nat} (g : W.grownBy W' row) (hr : ∀ k, row = some k → F k ∨ w.heap.size ≤ k) : Fr F w W' :=
  h.trans ⟨g.os, g.tape, g.output, g.size, fun i hi hn => g.block i hi (by intro he; exact hn (hr i he.symm))⟩
theorem Fr.cell {F : Nat → Prop} {w w' : World} (h : Fr F w w') {a : Addr} {v : Value} (hc : w.cell? a = some v) (hn : ¬ F a.block) : w'.cell? a = some v :=
  (World.cell?_of_block (h.block _ (World.block_lt_of_cell? w a hc) hn)).trans hc
theorem Fr.blk {F : Nat → Prop} {w w' : World} (h : Fr F w w') {b : Nat} {o : Obj} (hc : w.heap[b]? = some o) (hn : ¬ F b) : w'.heap[b]? = some o :=
  (h.block _ (Array.getElem?_eq_some_iff.1 hc).1 hn).trans hc

/-- The walk's own two rules behind a call that turns no old block. -/
theorem bcell {W w1 : World} (hb : Fr No W w1) : (∀ b o, b < W.heap.size → w1.cell? ⟨b, o, none⟩ = W.cell? ⟨b, o, none⟩) ∧ (∀ b o, b < W.heap.size → w1.frozen? ⟨b, o, none⟩ = W.frozen? ⟨b, o, none⟩) :=
  ⟨fun b o h => hb.to_below.cell (p := ⟨b, o, none⟩) h, fun b o h => hb.to_below.frozen (p := ⟨b, o, none⟩) h⟩

theorem blk_lt {w : World} {b : Nat} {o : Obj} (hc : w.heap[b]? = some o) : b < w.heap.size := (Array.getElem?_eq_some_iff.1 hc).1
theorem blk_cell {w : World} {g : Nat} {t : TypeId} {cs : Array Value} {fr : Nat × Nat} (h : w.heap[g]? = some (.cells cs t fr)) (i : Nat) : w.cell? ⟨g, i, none⟩ = cs[i]? := cell_of_row w g i cs t fr h
theorem blk_frozen {w : World} {g : Nat} {t : TypeId} {cs : Array Value} (h : w.heap[g]? = some (.cells cs t (0, 0))) (i : Nat) : w.frozen? ⟨g, i, none⟩ = false := by simp [World.frozen?, h]
theorem blk_set {w : World} {g : Nat} {t : TypeId} {cs : Array Value} {fr : Nat × Nat} (h : w.heap[g]? = some (.cells cs t fr)) (i : Nat) (u : Value) :
    (w.setCell ⟨g, i, none⟩ u).heap[g]? = some (.cells (cs.setIfInBounds i u) t fr) := by
  simp [World.setCell, Array.getElem?_modify, h]
theorem blk_far {w : World} {g : Nat} {o : Obj} (h : w.heap[g]? = some o) {p : Addr} (hp : g ≠ p.block) (u : Value) : (w.setCell p u).heap[g]? = some o :=
  (Below.heap_setCell _ _ _ _ hp).trans h
theorem cell_alloc {w : World} {a : Addr} {v : Value} (h : w.cell? a = some v) (o : Obj) : (w.alloc o).cell? a = some v := (World.cell?_alloc_lt _ _ _ (World.block_lt_of_cell? w a h)).trans h
theorem add0 (g j : Nat) : (⟨g, 0, none⟩ : Addr).add j = ⟨g, j, none⟩ := by unfold Addr.add; split <;> simp_all
theorem add_block (a : Addr) (j : Nat) : (a.add j).block = a.block := by unfold Addr.add; split <;> rfl

theorem cell_two1 (w : World) (u : Value) (t : TypeId) (o : Obj) : ((w.alloc (.cells #[u] t)).alloc o).cell? ⟨w.heap.size, 0, none⟩ = some u := by
  rw [World.cell?_alloc_lt _ _ _ (by simp)]; simp
theorem cell_two2 (w : World) (o : Obj) (u : Value) (t : TypeId) : ((w.alloc o).alloc (.cells #[u] t)).cell? ⟨w.heap.size + 1, 0, none⟩ = some u := by
  have := World.cell?_alloc_new (w.alloc o) #[u] t 0
  rw [World.size_alloc] at this
  exact this

/-! ### 2. Kinds of data that lie in cells -/
/-- How an x lies in cells; F bounds the blocks to which they lead. -/
structure Ty (α : Type) where
  sz : Nat
  K : World → (Nat → Prop) → α → List Value → Prop
  len : ∀ {w F x cs}, K w F x cs → cs.length = sz
  one : ∀ {w F x cs}, K w F x cs → ∀ u ∈ cs, u.oneCell' = true
  stab : ∀ {w w' F x cs}, K w F x cs → (∀ k, F k → k < w.heap.size → w'.heap[k]? = w.heap[k]?) → K w' F x cs
  mono : ∀ {w F G x cs}, K w F x cs → (∀ k, F k → k < w.heap.size → G k) → K w G x cs

/-- Elements one behind the other. -/
def Row {α : Type} (t : Ty α) (w : World) (F : Nat → Prop) : List α → List Value → Prop
  | [], cs => cs = []
  | x :: xs, cs => ∃ c d, cs = c ++ d ∧ t.K w F x c ∧ Row t w F xs d

section
variable {α : Type} {t : Ty α} {w w' : World} {F G : Nat → Prop} {xs ys : List α} {cs ds : List Value}
theorem Row.len (h : Row t w F xs cs) : cs.length = xs.length * t.sz := by
  induction xs generalizing cs with
  | nil => obtain rfl : cs = [] := h; simp
  | cons x xs ih => obtain ⟨c, d, rfl, h1, h2⟩ := h; rw [List.length_append, t.len h1, ih h2, List.length_cons, Nat.add_mul]; omega
theorem Row.one (h : Row t w F xs cs) : ∀ u ∈ cs, u.oneCell' = true := by
  induction xs generalizing cs with
  | nil => obtain rfl : cs = [] := h; simp
  | cons x xs ih =>
    obtain ⟨c, d, rfl, h1, h2⟩ := h
    intro u hu
    rcases List.mem_append.1 hu with hu | hu
    · exact t.one h1 u hu
    · exact ih h2 u hu
theorem Row.imp (h : Row t w F xs cs) (k : ∀ x c, t.K w F x c → t.K w' G x c) : Row t w' G xs cs := by
  induction xs generalizing cs with
  | nil => exact h
  | cons x xs ih => obtain ⟨c, d, rfl, h1, h2⟩ := h; exact ⟨c, d, rfl, k _ _ h1, ih h2⟩
theorem Row.stab (h : Row t w F xs cs) (k : ∀ k, F k → k < w.heap.size → w'.heap[k]? = w.heap[k]?) : Row t w' F xs cs := h.imp fun _ _ hk => t.stab hk k
theorem Row.mono (h : Row t w F xs cs) (k : ∀ k, F k → k < w.heap.size → G k) : Row t w G xs cs := h.imp fun _ _ hk => t.mono hk k
theorem Row.append (h : Row t w F xs cs) (k : Row t w F ys ds) : Row t w F (xs ++ ys) (cs ++ ds) := by
  induction xs generalizing cs with
  | nil => obtain rfl : cs = [] := h; simpa using k
  | cons x xs ih => obtain ⟨c, d, rfl, h1, h2⟩ := h; exact ⟨c, d ++ ds, by simp, h1, ih h2⟩
theorem Row.single {x : α} {c : List Value} (h : t.K w F x c) : Row t w F [x] c := ⟨c, [], by simp, h, rfl⟩
theorem Row.get (h : Row t w F xs cs) {i : Nat} (hi : i < xs.length) : ∃ c, t.K w F xs[i] c ∧ ∀ j, j < t.sz → cs[i * t.sz + j]? = c[j]? := by
  induction xs generalizing cs i with
  | nil => simp at hi
  | cons x xs ih =>
    obtain ⟨c, d, rfl, h1, h2⟩ := h
    cases i with
    | zero =>
      refine ⟨c, h1, fun j hj => ?_⟩
      rw [Nat.zero_mul, Nat.zero_add, List.getElem?_append_left (by rw [t.len h1]; exact hj)]
    | succ i =>
      obtain ⟨c', h3, h4⟩ := ih h2 (i := i) (by simpa using hi)
      refine ⟨c', h3, fun j hj => ?_⟩
      have e : (i + 1) * t.sz + j = c.length + (i * t.sz + j) := by rw [t.len h1, Nat.add_mul]; omega
      rw [e, List.getElem?_append_right (by omega), Nat.add_sub_cancel_left]
      exact h4 j hj
theorem Row.take (h : Row t w F xs cs) (n : Nat) : Row t w F (xs.take n) (cs.take (n * t.sz)) := by
  induction xs generalizing cs n with
  | nil => obtain rfl : cs = [] := h; simp [Row]
  | cons x xs ih =>
    obtain ⟨c, d, rfl, h1, h2⟩ := h
    cases n with
    | zero => simp [Row]
    | succ n =>
      refine ⟨c, d.take (n * t.sz), ?_, h1, ih h2 n⟩
      have e : (n + 1) * t.sz = c.length + n * t.sz := by rw [t.len h1, Nat.add_mul]; omega
      rw [e, List.take_length_add_append]
theorem Row.drop (h : Row t w F xs cs) (n : Nat) : Row t w F (xs.drop n) (cs.drop (n * t.sz)) := by
  induction xs generalizing cs n with
  | nil => obtain rfl : cs = [] := h; simp [Row]
  | cons x xs ih =>
    obtain ⟨c, d, rfl, h1, h2⟩ := h
    cases n with
    | zero => rw [List.drop_zero, Nat.zero_mul, List.drop_zero]; exact ⟨c, d, rfl, h1, h2⟩
    | succ n =>
      have e : (n + 1) * t.sz = c.length + n * t.sz := by rw [t.len h1, Nat.add_mul]; omega
      rw [e, List.drop_length_add_append]
      exact ih h2 n
end

/-- A slice's cells read so; F bounds the blocks to which they lead, its own too. -/
def Rd {α : Type} (t : Ty α) (w : World) (F : Nat → Prop) (A : Option Addr) (xs : List α) : Prop :=
  xs.length ≤ 9223372036854775807 ∧ ∃ cs, Row t w F xs cs ∧ ∀ j u, cs[j]? = some u → ∃ ad, A = some ad ∧ F ad.block ∧ w.cell? (ad.add j) = some u

section
variable {α : Type} {t : Ty α} {w w' : World} {F G : Nat → Prop} {A : Option Addr} {xs : List α}
theorem Rd.stab (h : Rd t w F A xs) (k : ∀ k, F k → k < w.heap.size → w'.heap[k]? = w.heap[k]?) : Rd t w' F A xs := by
  obtain ⟨h0, cs, h1, h2⟩ := h
  refine ⟨h0, cs, h1.stab k, fun j u hu => ?_⟩
  obtain ⟨ad, e, hf, hc⟩ := h2 j u hu
  exact ⟨ad, e, hf, (World.cell?_of_block (a := ad.add j) (k _ (by rw [add_block]; exact hf) (World.block_lt_of_cell? w _ hc))).trans hc⟩
theorem Rd.mono (h : Rd t w F A xs) (k : ∀ k, F k → k < w.heap.size → G k) : Rd t w G A xs := by
  obtain ⟨h0, cs, h1, h2⟩ := h
  refine ⟨h0, cs, h1.mono k, fun j u hu => ?_⟩
  obtain ⟨ad, e, hf, hc⟩ := h2 j u hu
  exact ⟨ad, e, k _ hf (by have := World.block_lt_of_cell? w _ hc; rwa [add_block] at this), hc⟩
theorem Rd.fr {S : Nat → Prop} (h : Rd t w F A xs) (f : Fr S w w') (hd : ∀ k, F k → ¬ S k) : Rd t w' F A xs := h.stab fun k hk hl => f.block k hl (hd k hk)
theorem Rd.fr0 (h : Rd t w F A xs) (f : Fr No w w') : Rd t w' F A xs := h.stab fun k hk hl => f.block k hl (fun f => f)
theorem Rd.nil : Rd t w F A ([] : List α) := ⟨by simp, [], rfl, fun j u hu => by simp at hu⟩
theorem Rd.get (h : Rd t w F A xs) {i : Nat} (hi : i < xs.length) (hz : 0 < t.sz) : ∃ ad c, A = some ad ∧ F ad.block ∧ t.K w F xs[i] c ∧ ∀ j u, c[j]? = some u → w.cell? (ad.add (i * t.sz + j)) = some u := by
  obtain ⟨h0, cs, h1, h2⟩ := h
  obtain ⟨c, h3, h4⟩ := h1.get hi
  have hl := t.len h3
  obtain ⟨ad, e, hf, _⟩ := h2 (i * t.sz + 0) (c[0]'(by omega)) (by rw [h4 0 hz]; exact List.getElem?_eq_getElem _)
  refine ⟨ad, c, e, hf, h3, fun j u hu => ?_⟩
  have hj : j < t.sz := by have := (List.getElem?_eq_some_iff.1 hu).1; omega
  obtain ⟨ad', e', _, hc⟩ := h2 (i * t.sz + j) u ((h4 j hj).trans hu)
  obtain rfl : ad' = ad := by rw [e] at e'; exact (Option.some.inj e').symm
  exact hc
theorem Rd.take (h : Rd t w F A xs) (n : Nat) : Rd t w F A (xs.take n) := by
  obtain ⟨h0, cs, h1, h2⟩ := h
  refine ⟨Nat.le_trans (List.length_take_le' n xs) h0, _, h1.take n, fun j u hu => h2 j u ?_⟩
  rw [List.getElem?_take] at hu
  split at hu
  · exact hu
  · cases hu
theorem add_add (a : Addr) (i j : Nat) : (a.add i).add j = a.add (i + j) := by
  unfold Addr.add
  by_cases h1 : i = 0 <;> by_cases h2 : j = 0 <;> simp [h1, h2, Nat.add_assoc]
theorem Rd.drop (h : Rd t w F A xs) (n : Nat) : Rd t w F (A.map (·.add (n * t.sz))) (xs.drop n) := by
  obtain ⟨h0, cs, h1, h2⟩ := h
  refine ⟨by simp; omega, _, h1.drop n, fun j u hu => ?_⟩
  rw [List.getElem?_drop] at hu
  obtain ⟨ad, e, hf, hc⟩ := h2 _ u hu
  exact ⟨ad.add (n * t.sz), by simp [e], by rw [add_block]; exact hf, by rw [add_add]; exact hc⟩
end

/-- A slice of the call's own (or of an object's): it may be appended to. F bounds all its blocks; e: the element's type. -/
def Ow {α : Type} (t : Ty α) (e : TypeId) (w : World) (F : Nat → Prop) (v : Value) (xs : List α) : Prop :=
  ∃ cs, w.ownsRow 0 e t.sz v xs.length cs ∧ Row t w (fun k => F k ∧ v.ownBlock ≠ some k) xs cs ∧ ∀ k, v.ownBlock = some k → F k

section
variable {α : Type} {t : Ty α} {e : TypeId} {w w' : World} {F G : Nat → Prop} {v : Value} {xs : List α}
theorem Ow.nil : Ow t e w F (.slice none 0 0) ([] : List α) := ⟨[], World.ownsRow_nil w 0 e t.sz, rfl, fun k hk => by simp [Value.ownBlock] at hk⟩
theorem Ow.stab (h : Ow t e w F v xs) (k : ∀ k, F k → k < w.heap.size → w'.heap[k]? = w.heap[k]?) : Ow t e w' F v xs := by
  obtain ⟨cs, h1, h2, h3⟩ := h
  refine ⟨cs, ⟨h1.1, ?_⟩, h2.stab fun i hi hl => k i hi.1 hl, h3⟩
  rcases h1.2 with h4 | ⟨g, cap, cur, rfl, hb, hg, r⟩
  · exact .inl h4
  · exact .inr ⟨g, cap, cur, rfl, hb, (k g (h3 g rfl) (blk_lt hg)).trans hg, r⟩
theorem Ow.fr {S : Nat → Prop} (h : Ow t e w F v xs) (f : Fr S w w') (hd : ∀ k, F k → ¬ S k) : Ow t e w' F v xs := h.stab fun k hk hl => f.block k hl (hd k hk)
theorem Ow.fr0 (h : Ow t e w F v xs) (f : Fr No w w') : Ow t e w' F v xs := h.stab fun k hk hl => f.block k hl (fun f => f)
theorem Ow.mono (h : Ow t e w F v xs) (k : ∀ k, F k → k < w.heap.size → G k) : Ow t e w G v xs := by
  obtain ⟨cs, h1, h2, h3⟩ := h
  refine ⟨cs, h1, h2.mono fun i hi hl => ⟨k i hi.1 hl, hi.2⟩, fun i hi => k i (h3 i hi) ?_⟩
  exact (h1.lt i hi).2
theorem Ow.slice (h : Ow t e w F v xs) : ∃ A c, v = .slice A xs.length c ∧ xs.length ≤ c ∧ Rd t w F A xs := by
  obtain ⟨cs, h1, h2, h3⟩ := h
  rcases h1.2 with ⟨rfl, h4⟩ | ⟨g, cap, cur, rfl, hb, hg, hn, hm, hs, ht⟩
  · obtain rfl := List.eq_nil_of_length_eq_zero h4
    exact ⟨none, 0, rfl, by simp, Rd.nil⟩
  · refine ⟨_, cap, rfl, hn, by unfold maxLen at hm; omega, cs, h2.mono fun i hi _ => hi.1, fun j u hu => ⟨_, rfl, h3 g rfl, h1.cells (g := g) rfl j u hu⟩⟩
/-- What is known of an owned slice that is no longer appended to. -/
theorem Ow.rd {A : Option Addr} {n c : Nat} (h : Ow t e w F (.slice A n c) xs) : n = xs.length ∧ n ≤ c ∧ Rd t w F A xs := by
  obtain ⟨A', c', he, h1, h2⟩ := h.slice
  injection he with e1 e2 e3
  subst e1; subst e2; subst e3
  exact ⟨rfl, h1, h2⟩
theorem Ow.own {k : Nat} (h : Ow t e w F v xs) (hk : v.ownBlock = some k) : F k ∧ k < w.heap.size := by
  obtain ⟨cs, h1, h2, h3⟩ := h
  exact ⟨h3 k hk, (h1.lt k hk).2⟩
end

theorem add_field (ad : Addr) (m j : Nat) (hj : 0 < j) : ad.add (m + j) = ⟨(ad.add m).block, (ad.add m).off + j, none⟩ := by
  unfold Addr.add
  by_cases hm : m = 0 <;> simp [hm, Nat.add_assoc] <;> omega
/-- The cells of one element, as the walk spells them: its first one, and any other. -/
theorem Rd.get' {α : Type} {t : Ty α} {w : World} {F : Nat → Prop} {A : Option Addr} {xs : List α} (h : Rd t w F A xs) {i : Nat} (hi : i < xs.length) (hz : 0 < t.sz) :
    ∃ ad c, A = some ad ∧ t.K w F xs[i] c ∧ (∀ u, c[0]? = some u → w.cell? (ad.add (i * t.sz)) = some u) ∧
      ∀ j u, 0 < j → c[j]? = some u → w.cell? ⟨(ad.add (i * t.sz)).block, (ad.add (i * t.sz)).off + j, none⟩ = some u := by
  obtain ⟨ad, c, e, _, hk, hc⟩ := h.get hi hz
  exact ⟨ad, c, e, hk, fun u hu => hc 0 u hu, fun j u hj hu => by rw [← add_field _ _ _ hj]; exact hc j u hu⟩

/-! ### 3. The kinds -/
def Ty.int (k : IntKind) : Ty Int where
  sz := 1
  K := fun _ _ x cs => cs = [.int k x]
  len := by rintro _ _ _ _ rfl; rfl
  one := by rintro _ _ _ _ rfl u hu; simp at hu; subst hu; rfl
  stab := fun h _ => h
  mono := fun h _ => h
def Ty.u8 : Ty UInt8 where
  sz := 1
  K := fun _ _ x cs => cs = [.int .u8 x.toNat]
  len := by rintro _ _ _ _ rfl; rfl
  one := by rintro _ _ _ _ rfl u hu; simp at hu; subst hu; rfl
  stab := fun h _ => h
  mono := fun h _ => h
def Ty.bool : Ty Bool where
  sz := 1
  K := fun _ _ x cs => cs = [.bool x]
  len := by rintro _ _ _ _ rfl; rfl
  one := by rintro _ _ _ _ rfl u hu; simp at hu; subst hu; rfl
  stab := fun h _ => h
  mono := fun h _ => h
def Ty.str : Ty ByteArray where
  sz := 1
  K := fun _ _ x cs => cs = [.string x]
  len := by rintro _ _ _ _ rfl; rfl
  one := by rintro _ _ _ _ rfl u hu; simp at hu; subst hu; rfl
  stab := fun h _ => h
  mono := fun h _ => h
/-- A slice that is read. -/
def Ty.slice {α : Type} (t : Ty α) : Ty (List α) where
  sz := 1
  K := fun w F xs cs => ∃ A c, cs = [.slice A xs.length c] ∧ xs.length ≤ c ∧ Rd t w F A xs
  len := by rintro _ _ _ _ ⟨_, _, rfl, _⟩; rfl
  one := by rintro _ _ _ _ ⟨_, _, rfl, _⟩ u hu; simp at hu; subst hu; rfl
  stab := by rintro _ _ _ _ _ ⟨A, c, rfl, h1, h2⟩ h; exact ⟨A, c, rfl, h1, h2.stab h⟩
  mono := by rintro _ _ _ _ _ ⟨A, c, rfl, h1, h2⟩ h; exact ⟨A, c, rfl, h1, h2.mono h⟩
def Ty.pair {α β : Type} (s : Ty α) (t : Ty β) : Ty (α × β) where
  sz := s.sz + t.sz
  K := fun w F x cs => ∃ c d, cs = c ++ d ∧ s.K w F x.1 c ∧ t.K w F x.2 d
  len := by rintro _ _ _ _ ⟨c, d, rfl, h1, h2⟩; rw [List.length_append, s.len h1, t.len h2]
  one := by
    rintro _ _ _ _ ⟨c, d, rfl, h1, h2⟩ u hu
    rcases List.mem_append.1 hu with hu | hu
    · exact s.one h1 u hu
    · exact t.one h2 u hu
  stab := by rintro _ _ _ _ _ ⟨c, d, rfl, h1, h2⟩ h; exact ⟨c, d, rfl, s.stab h1 h, t.stab h2 h⟩
  mono := by rintro _ _ _ _ _ ⟨c, d, rfl, h1, h2⟩ h; exact ⟨c, d, rfl, s.mono h1 h, t.mono h2 h⟩
def Ty.iso {α β : Type} (t : Ty β) (f : α → β) : Ty α where
  sz := t.sz
  K := fun w F x cs => t.K w F (f x) cs
  len := fun h => t.len h
  one := fun h => t.one h
  stab := fun h k => t.stab h k
  mono := fun h k => t.mono h k

/-! ### 4. append -/
/-- Cells that are read at A, wherever they lie. -/
def At (w : World) (A : Option Addr) (cs : List Value) : Prop := ∀ j u, cs[j]? = some u → ∃ ad, A = some ad ∧ w.cell? (ad.add j) = some u
theorem At.block {w : World} {b : Nat} {cs : Array Value} {t : TypeId} {fr : Nat × Nat} (hb : w.heap[b]? = some (.cells cs t fr)) : At w (some ⟨b, 0, none⟩) cs.toList :=
  fun j u hu => ⟨_, rfl, World.news_of_block hb j u hu⟩
theorem Rd.at {α : Type} {t : Ty α} {w : World} {F : Nat → Prop} {A : Option Addr} {xs : List α} (h : Rd t w F A xs) : ∃ cs, Row t w F xs cs ∧ At w A cs := by
  obtain ⟨_, cs, h1, h2⟩ := h
  exact ⟨cs, h1, fun j u hu => by obtain ⟨ad, e, _, hc⟩ := h2 j u hu; exact ⟨ad, e, hc⟩⟩

theorem run_append_of_nil {P : Program} (w : World) (base : Nat) (t ty e : TypeId) (i : TypeInfo) (size : Nat) (ht : P.underlying t = some (.slice e)) (hi : P.info? e = some i)
    (v : Value) (n : Nat) (xs : List Value) (hown : w.ownsRow base e size v n xs) (A : Option Addr) (c : Nat) (hn : i.size = size) : (Builtin.append_ #[t, t] ty #[v, .slice A 0 c]).run P w = .ok v w := by
  have hf : (Builtin.firstCells i.size 0 (.slice A 0 c)).run P w = .ok #[] w := by
    cases A <;> simp [Builtin.firstCells, loadCells, loadCellsFrom]
  rcases hown.2 with ⟨rfl, rfl⟩ | ⟨g, cap, cur, rfl, _, _, hnc, _⟩
  · simp [Builtin.append_, run_underlying ht, sizeOf, typeInfo, hi, Builtin.lenOf, hf]
  · simp [Builtin.append_, run_underlying ht, sizeOf, typeInfo, hi, Builtin.lenOf, hf, hnc, storeCells]

section
variable {P : Program} {ops : Array Oper} {rest : List Oper} {o : Oper} {a : Act} {Q : Exit → Act → World → Prop}

/-- append(v, x...) as one run: v owned, x read. -/
theorem run_ow_append {α : Type} (t : Ty α) {W : World} {F : Nat → Prop} {v : Value} {xs ys : List α} {e ty ty' : TypeId} (HO : Ow t e W F v xs) (z : Value) (bytes : Nat)
    (ht : P.underlying ty = some (.slice e)) (hinfo : (P.info? e).map (fun i => (i.zero, i.size, i.bytes)) = some (some z, t.sz, bytes)) (hz : z.cells.size = t.sz) (hb0 : 0 < bytes) (hsz : 0 < t.sz)
    {A : Option Addr} (c : Nat) {cs : List Value} (hy : Row t W (fun i => F i ∧ v.ownBlock ≠ some i) ys cs) (hA : At W A cs) (hl : (xs.length + ys.length) * bytes ≤ 140737488355328) :
    ∃ A1 c1 w1, (Builtin.append_ #[ty, ty] ty' #[v, .slice A ys.length c]).run P W = .ok (.slice A1 (xs.length + ys.length) c1) w1 ∧
      Ow t e w1 (fun k => F k ∨ W.heap.size ≤ k) (.slice A1 (xs.length + ys.length) c1) (xs ++ ys) ∧ W.grownBy w1 v.ownBlock ∧
      ((Value.slice A1 (xs.length + ys.length) c1).ownBlock = v.ownBlock ∨ (Value.slice A1 (xs.length + ys.length) c1).ownBlock = some W.heap.size) := by
  obtain ⟨i0, hi, hzz⟩ := Option.map_eq_some_iff.1 hinfo
  simp only [Prod.mk.injEq] at hzz
  obtain ⟨hz0, hz1, hz2⟩ := hzz
  obtain ⟨c0, h1, h2, h3⟩ := HO
  have hlen : xs.length + ys.length ≤ 140737488355328 := Nat.le_trans (Nat.le_mul_of_pos_right _ hb0) hl
  have hcl := hy.len
  by_cases hm : ys.length = 0
  · obtain rfl := List.eq_nil_of_length_eq_zero hm
    obtain rfl : cs = [] := hy
    have hr := run_append_of_nil (P := P) W 0 ty ty' e i0 t.sz ht hi v xs.length c0 h1 A c hz1
    have HO' : Ow t e W F v xs := ⟨c0, h1, h2, h3⟩
    obtain ⟨A1, c1, rfl, _, _⟩ := HO'.slice
    refine ⟨A1, c1, W, hr, ?_, World.grownBy.refl W _, .inl rfl⟩
    simpa using HO'.mono fun k hk _ => .inl hk
  · obtain ⟨ad, rfl, _⟩ := hA 0 (cs[0]'(by rw [hcl]; exact Nat.mul_pos (by omega) hsz)) (List.getElem?_eq_getElem _)
    have hnews : ∀ j u, cs[j]? = some u → W.cell? (ad.add j) = some u := fun j u hu => by
      obtain ⟨ad', e', hc⟩ := hA j u hu
      obtain rfl := Option.some.inj e'
      exact hc
    obtain ⟨g, cap, w1, hr, hown, hg, hat⟩ := run_append_lies (P := P) W ty ty' 0 e i0 z t.sz bytes ht hi hz0 hz1 hz2 hz hsz v xs.length c0 h1 ad ys.length c cs hcl hnews hy.one (by omega) (by simp only [maxLen]; omega) hl (Nat.zero_le _) W.heap.size rfl
    have hat := hat.1
    have hst : ∀ k, (F k ∧ v.ownBlock ≠ some k) → k < W.heap.size → w1.heap[k]? = W.heap[k]? := fun k hk hl => hg.block k hl (fun e => hk.2 e.symm)
    have hgne : ∀ k, (F k ∧ v.ownBlock ≠ some k) → k < W.heap.size → (F k ∨ W.heap.size ≤ k) ∧ (Value.slice (some ⟨g, 0, none⟩) (xs.length + ys.length) cap).ownBlock ≠ some k := fun k hk hl => by
      refine ⟨.inl hk.1, fun he => ?_⟩
      obtain rfl : g = k := by simpa [Value.ownBlock] using he
      rcases hat with hat | hat
      · exact hk.2 hat
      · omega
    have r1 : Row t W (fun k => (F k ∧ v.ownBlock ≠ some k) ∧ k < W.heap.size) (xs ++ ys) (c0 ++ cs) := (h2.mono fun k hk hl => ⟨hk, hl⟩).append (hy.mono fun k hk hl => ⟨hk, hl⟩)
    have r2 := (r1.stab (w' := w1) (fun k hk _ => hst k hk.1 hk.2)).mono (fun k hk _ => hgne k hk.1 hk.2)
    refine ⟨some ⟨g, 0, none⟩, cap, w1, hr, ⟨c0 ++ cs, by simpa using hown, r2, fun k hk => ?_⟩, hg, ?_⟩
    · obtain rfl : g = k := by simpa [Value.ownBlock] using hk
      rcases hat with hat | hat
      · exact .inl (h3 _ hat)
      · exact .inr (by omega)
    · rcases hat with hat | hat
      · exact .inl (by rw [hat]; rfl)
      · exact .inr (by rw [← hat]; rfl)

theorem wp_append_run {w w1 : World} {K : Act → World → Prop} (s x : Operand) (ty ty' : TypeId) (ho : o.op = .call { callee := .builtin .append, args := #[s, x], argTypes := #[ty, ty'] })
    {vs vx v1 : Value} (hs : a.eval s = vs) (hx : a.eval x = vx) (hr : (Builtin.append_ #[ty, ty'] o.type #[vs, vx]).run P w = .ok v1 w1) (h : K (a.put o.dst v1) w1) : o.wp P a w K Q := by
  unfold Oper.wp execOp
  simp only [ho, resolve, invoke, builtin, Sem.run_bind, Sem.run_pure, Result.andThen_ok, List.map_toArray, List.map_cons, List.map_nil, hs, hx, hr]
  exact h

/-- append(v, x...) where the walk stands: behind 'at_builtin'. -/
theorem ow_append {α : Type} (t : Ty α) {W : World} {F : Nat → Prop} {v : Value} {xs ys : List α} {e ty : TypeId} (HO : Ow t e W F v xs) (s x : Operand) (z : Value) (bytes : Nat) (hgd : o.guard = none)
    (ho : o.op = .call { callee := .builtin .append, args := #[s, x], argTypes := #[ty, ty] })
    (ht : P.underlying ty = some (.slice e)) (hinfo : (P.info? e).map (fun i => (i.zero, i.size, i.bytes)) = some (some z, t.sz, bytes)) (hz : z.cells.size = t.sz) (hb0 : 0 < bytes) (hsz : 0 < t.sz)
    (hs : a.eval s = v) {A : Option Addr} {n c : Nat} {cs : List Value} (hx : a.eval x = .slice A n c) (hn : n = ys.length)
    (hy : Row t W (fun i => F i ∧ v.ownBlock ≠ some i) ys cs) (hA : At W A cs) (hl : (xs.length + ys.length) * bytes ≤ 140737488355328)
    (h : ∀ A1 c1 w1, Ow t e w1 (fun k => F k ∨ W.heap.size ≤ k) (.slice A1 (xs.length + ys.length) c1) (xs ++ ys) → W.grownBy w1 v.ownBlock →
      ((Value.slice A1 (xs.length + ys.length) c1).ownBlock = v.ownBlock ∨ (Value.slice A1 (xs.length + ys.length) c1).ownBlock = some W.heap.size) →
      wpList P ops Q rest (a.put o.dst (.slice A1 (xs.length + ys.length) c1)) w1) :
    wpList P ops Q (o :: rest) a W := by
  subst hn
  obtain ⟨A1, c1, w1, hr, h1, h2, h3⟩ := run_ow_append (P := P) (ty' := o.type) t HO z bytes ht hinfo hz hb0 hsz c hy hA hl
  exact wpList_plain hgd fun K hK => wp_append_run s x ty ty ho hs hx hr (hK _ _ (h A1 c1 w1 h1 h2 h3))

/-- The same at a step of a region that draws its order. -/
theorem ow_append_step {α : Type} (t : Ty α) {W : World} {F : Nat → Prop} {v : Value} {xs ys : List α} {e ty : TypeId} {K : Act → World → Prop} {E : Prop} (HO : Ow t e W F v xs) (s x : Operand) (z : Value) (bytes : Nat) (hgd : o.guard = none)
    (ho : o.op = .call { callee := .builtin .append, args := #[s, x], argTypes := #[ty, ty] })
    (ht : P.underlying ty = some (.slice e)) (hinfo : (P.info? e).map (fun i => (i.zero, i.size, i.bytes)) = some (some z, t.sz, bytes)) (hz : z.cells.size = t.sz) (hb0 : 0 < bytes) (hsz : 0 < t.sz)
    (hs : a.eval s = v) {A : Option Addr} {n c : Nat} {cs : List Value} (hx : a.eval x = .slice A n c) (hn : n = ys.length)
    (hy : Row t W (fun i => F i ∧ v.ownBlock ≠ some i) ys cs) (hA : At W A cs) (hl : (xs.length + ys.length) * bytes ≤ 140737488355328)
    (h : ∀ A1 c1 w1, Ow t e w1 (fun k => F k ∨ W.heap.size ≤ k) (.slice A1 (xs.length + ys.length) c1) (xs ++ ys) → W.grownBy w1 v.ownBlock →
      ((Value.slice A1 (xs.length + ys.length) c1).ownBlock = v.ownBlock ∨ (Value.slice A1 (xs.length + ys.length) c1).ownBlock = some W.heap.size) →
      K (a.put o.dst (.slice A1 (xs.length + ys.length) c1)) w1) :
    if Region.wanted o (yielded ops a.tmps) = true then Oper.wp P o a W K Q else E := by
  subst hn
  have hw : Region.wanted o (yielded ops a.tmps) = true := by simp [Region.wanted, hgd]
  rw [if_pos hw]
  obtain ⟨A1, c1, w1, hr, h1, h2, h3⟩ := run_ow_append (P := P) (ty' := o.type) t HO z bytes ht hinfo hz hb0 hsz c hy hA hl
  exact wp_append_run s x ty ty ho hs hx hr (h A1 c1 w1 h1 h2 h3)
end

/-- A region that draws its order, whose last operations are forced: the world behind the draw under its own name. -/
theorem still_tail {P : Program} {id : Nat} {Q : Exit → Act → World → Prop} {a : Act} {w : World} {l : List Oper} (n : Nat) (hm : P.follows .mixedOrders = true) (hB : Region.lexTailB .any l.toArray n = true)
    (h : wpStill P l.toArray w.drew (fun a' => wpList P l.toArray Q (l.drop n) a' w.drew) (l.take n) a) : (Code.region id l.toArray true).wp P Q a w := wp_region_still_tail n hm hB h

/-! ### 5. Reslicing -/
section
variable {P : Program}
theorem cut_lo {α : Type} (t : Ty α) (ty e : TypeId) (kl : IntKind) (ht : P.underlying ty = some (.slice e)) (hi : (P.info? e).map (·.size) = some t.sz) (A : Option Addr) (n c lo : Nat) (hlo : lo ≤ n) (hc : n ≤ c) :
    ∃ A', (∀ W : World, (Instr.slice ty (.slice A n c) (some (.int kl (lo : Int))) none none).run P W = .ok (.slice A' (n - lo) (c - lo)) W) ∧
      ∀ (w : World) (F : Nat → Prop) (xs : List α), xs.length = n → Rd t w F A xs → Rd t w F A' (xs.drop lo) := by
  obtain ⟨i0, hi0, hsz⟩ := Option.map_eq_some_iff.1 hi
  have hel : P.elem ty = e := by simp [Program.elem, ht]
  have hu : P.underlying ty = some (.slice (P.elem ty)) := by rw [hel]; exact ht
  refine ⟨if c = lo then A else A.map (·.add (lo * t.sz)), fun W => ?_, fun w F xs hx h => ?_⟩
  · rw [run_slice_l W ty A n c hu kl (lo : Int) (Int.natCast_nonneg _) (by omega), hel]
    simp [sizeOf, typeInfo, hi0, hsz, sliced, Result.andThen]
  · split
    · have : xs.drop lo = [] := List.drop_eq_nil_of_le (by omega)
      rw [this]
      exact Rd.nil
    · exact h.drop lo
theorem cut_hi {α : Type} (t : Ty α) (ty e : TypeId) (kh : IntKind) (ht : P.underlying ty = some (.slice e)) (hi : (P.info? e).map (·.size) = some t.sz) (A : Option Addr) (n c up : Nat) (hup : up ≤ n) (hc : n ≤ c) :
    ∃ A', (∀ W : World, (Instr.slice ty (.slice A n c) none (some (.int kh (up : Int))) none).run P W = .ok (.slice A' up c) W) ∧
      ∀ (w : World) (F : Nat → Prop) (xs : List α), xs.length = n → Rd t w F A xs → Rd t w F A' (xs.take up) := by
  obtain ⟨i0, hi0, hsz⟩ := Option.map_eq_some_iff.1 hi
  have hel : P.elem ty = e := by simp [Program.elem, ht]
  have hu : P.underlying ty = some (.slice (P.elem ty)) := by rw [hel]; exact ht
  refine ⟨if c = 0 then A else A.map (·.add (0 * t.sz)), fun W => ?_, fun w F xs hx h => ?_⟩
  · rw [run_slice_h W ty A n c hu kh (up : Int) (Int.natCast_nonneg _) (by omega), hel]
    simp [sizeOf, typeInfo, hi0, hsz, sliced, Result.andThen]
  · have e : A.map (·.add (0 * t.sz)) = A := by cases A <;> simp [Addr.add]
    rw [e]
    simpa using h.take up
theorem cut_mid {α : Type} (t : Ty α) (ty e : TypeId) (kl kh : IntKind) (ht : P.underlying ty = some (.slice e)) (hi : (P.info? e).map (·.size) = some t.sz) (A : Option Addr) (n c lo up : Nat) (hlo : lo ≤ up) (hup : up ≤ n) (hc : n ≤ c) :
    ∃ A', (∀ W : World, (Instr.slice ty (.slice A n c) (some (.int kl (lo : Int))) (some (.int kh (up : Int))) none).run P W = .ok (.slice A' (up - lo) (c - lo)) W) ∧
      ∀ (w : World) (F : Nat → Prop) (xs : List α), xs.length = n → Rd t w F A xs → Rd t w F A' ((xs.take up).drop lo) := by
  obtain ⟨i0, hi0, hsz⟩ := Option.map_eq_some_iff.1 hi
  have hel : P.elem ty = e := by simp [Program.elem, ht]
  have hu : P.underlying ty = some (.slice (P.elem ty)) := by rw [hel]; exact ht
  refine ⟨if c = lo then A else A.map (·.add (lo * t.sz)), fun W => ?_, fun w F xs hx h => ?_⟩
  · rw [run_slice_lh W ty A n c hu kl kh (lo : Int) (up : Int) (Int.natCast_nonneg _) (by omega) (by omega), hel]
    simp [sizeOf, typeInfo, hi0, hsz, sliced, Result.andThen]
  · split
    · have : (xs.take up).drop lo = [] := List.drop_eq_nil_of_le (by simp; omega)
      rw [this]
      exact Rd.nil
    · exact (h.take up).drop lo
end
end Go.Proofs.Ytkcppngopdiljaa
/- Layer 12 (chain): versions, and what is done with them, as plain functions. -/
set_option linter.unusedVariables false
namespace Go.Proofs.Ytkcppngopdiljaa

abbrev Bs := List UInt8
/-- A row, or that it is gone, from a number on. -/
structure Ver where
  at_ : Int
  row : Bs
  gone : Bool
/-- Versions, the oldest first, and the greatest number. -/
structure Chn where
  l : List Ver
  last : Int

namespace Chn
def empty : Chn := ⟨[], 0⟩
def put (c : Chn) (a : Int) (row : Bs) (gone : Bool) : Chn := ⟨c.l ++ [⟨a, row, gone⟩], a⟩
/-- How many aren't above a number (they rise). -/
def seen (c : Chn) (a : Int) : Nat := (c.l.takeWhile fun v => decide (v.at_ ≤ a)).length
def get (c : Chn) (a : Int) : Option Bs :=
  match c.l[c.seen a - 1]? with
  | some v => if c.seen a = 0 then none else if v.gone then none else some v.row
  | none => none
/-- How many are let go. -/
def cut (c : Chn) (a : Int) : Nat :=
  match c.l[c.seen a - 1]? with
  | some v => if c.seen a = 0 then 0 else if v.gone then c.seen a else c.seen a - 1
  | none => 0
def trim (c : Chn) (a : Int) : Chn := ⟨c.l.drop (c.cut a), c.last⟩
/-- Numbers rise, and none is above the greatest. -/
def Ok (c : Chn) : Prop := c.l.Pairwise (fun x y => x.at_ < y.at_) ∧ ∀ v ∈ c.l, v.at_ ≤ c.last
end Chn

def tVer : Ty Ver := Ty.iso (Ty.pair (Ty.int .i64) (Ty.pair (Ty.slice Ty.u8) Ty.bool)) fun x => (x.at_, x.row, x.gone)
theorem tVer_open {w : World} {F : Nat → Prop} {x : Ver} {cs : List Value} (h : tVer.K w F x cs) :
    ∃ A c, cs = [.int .i64 x.at_, .slice A x.row.length c, .bool x.gone] ∧ x.row.length ≤ c ∧ Rd Ty.u8 w F A x.row := by
  obtain ⟨_, _, rfl, rfl, _, _, rfl, ⟨A, c, rfl, h1, h2⟩, rfl⟩ := h
  exact ⟨A, c, rfl, h1, h2⟩
theorem tVer_mk {w : World} {F : Nat → Prop} {a : Int} {r : Bs} {g : Bool} {A : Option Addr} {c : Nat} (h1 : r.length ≤ c) (h2 : Rd Ty.u8 w F A r) :
    tVer.K w F ⟨a, r, g⟩ [.int .i64 a, .slice A r.length c, .bool g] :=
  ⟨_, [_, _], rfl, rfl, [_], [_], rfl, ⟨A, c, rfl, h1, h2⟩, rfl⟩
end Go.Proofs.Ytkcppngopdiljaa
/- Layer 12 (chain): what the program's functions on a chain do. -/
set_option linter.unusedVariables false
set_option linter.unusedSimpArgs false
namespace Go.Proofs.Ytkcppngopdiljaa
open Go.RowKit

theorem info_u8 : (Try.prog.info? 5).map (fun i => (i.zero, i.size, i.bytes)) = some (some (.int .u8 0), 1, 1) := by kernel_rfl
theorem info_ver : (Try.prog.info? 134).map (fun i => (i.zero, i.size, i.bytes)) = some (some (.agg #[.int .i64 0, .slice none 0 0, .bool false]), 3, 40) := by kernel_rfl

/-- bytes.Clone. -/
theorem clone_ok {w : World} {F : Nat → Prop} {A : Option Addr} {n c : Nat} {xs : Bs} (h : Rd Ty.u8 w F A xs) (hn : n = xs.length) (hl : xs.length ≤ 140737488355328) :
    Calls Try.prog 31 #[.slice A n c] w fun e w' => ∃ A1 c1, e = .returned (.slice A1 xs.length c1) ∧ Ow Ty.u8 5 w' (fun k => w.heap.size ≤ k) (.slice A1 xs.length c1) xs ∧ Fr No w w' := by
  subst hn
  have q22 : ∀ (w : World) (a : Option Addr) (n c n' c' : Nat), (binOp .eql 27 (.slice a n c) (.slice none n' c')).run Try.prog w = .ok (.bool a.isNone) w := fun w a n c n' c' => Lib.run_eql_slice_nil w _ _ a n c n' c' Try.underlying27
  obtain ⟨cs, hR, hA⟩ := (h.fr0 (Fr.below ((Below.refl w.heap.size w).alloc (Nat.le_refl _) (.cells #[] 5)))).at
  cases hA0 : A with
  | none =>
    obtain rfl : xs = [] := by
      cases xs with
      | nil => rfl
      | cons x xs =>
        obtain ⟨c', d, rfl, hc, _⟩ := hR
        obtain rfl : c' = _ := hc
        obtain ⟨ad, e, _⟩ := hA 0 _ rfl
        rw [hA0] at e; cases e
    go_enter Try.func31, Try.ntmps31
    go_wp2
    go_ret
    exact ⟨none, 0, rfl, Ow.nil, Fr.refl _ _⟩
  | some ad =>
    subst hA0
    have hown : Ow Ty.u8 5 (w.alloc (.cells #[] 5)) (fun k => w.heap.size ≤ k) (.slice (some ⟨w.heap.size, 0, none⟩) 0 0) ([] : Bs) :=
      ⟨[], World.ownsRow_made w #[] 0 (Nat.zero_le _) (Nat.zero_le _) rfl, rfl, fun k hk => by simp [Value.ownBlock] at hk; omega⟩
    have hR' : Row Ty.u8 (w.alloc (.cells #[] 5)) (fun i => w.heap.size ≤ i ∧ (Value.slice (some ⟨w.heap.size, 0, none⟩) 0 0).ownBlock ≠ some i) xs cs := hR.imp fun _ _ h => h
    have H := Lib.hid (And.intro hown (And.intro hR' hA))
    clear hown hR' hA hR h
    go_enter Try.func31, Try.ntmps31
    go_wp2_with (at_builtin; refine ow_append Ty.u8 H.out.1 _ _ (.int .u8 0) 1 rfl rfl Try.underlying27 info_u8 rfl (by decide) (by decide) rfl rfl rfl H.out.2.1 H.out.2.2 (by simp; omega) ?_; intro A1 c1 w1 hown1 hg hat)
    go_ret
    simp only [List.length_nil, Nat.zero_add, List.nil_append] at hown1 ⊢
    refine ⟨A1, c1, rfl, hown1.mono fun k hk _ => by simp at hk; omega, ?_⟩
    exact ((Fr.refl No w).alloc _).grown hg fun k hk => .inr (by simp [Value.ownBlock] at hk; omega)

/-- sort.Search, of a function that only reads (it may draw): how many there are ahead of the first one of which it says yes. -/
theorem search_ok (g : Nat) (caps : Array Value) (p : Nat → Bool) (n r : Nat) (w : World) (hn : n ≤ 1000000000) (hr : r ≤ n) (h0 : ∀ i, i < r → p i = false) (h1 : ∀ i, r ≤ i → i < n → p i = true)
    (he : ∀ args w, Sem.run Try.prog (callFunc g args) w = .ok (.enter g args) w)
    (hg : ∀ i m, i < n → Calls Try.prog g (#[.int .i64 (i : Int)] ++ caps) (w.drewN m) fun e w' => e = .returned (.bool (p i)) ∧ ∃ m', w' = w.drewN m') :
    Calls Try.prog 96 #[.int .i64 n, .func (.func g) #[] caps] w fun e w' => e = .returned (.int .i64 r) ∧ ∃ m, w' = w.drewN m := by
  have HG := Lib.hid hg
  have H0 := Lib.hid h0
  have H1 := Lib.hid h1
  clear hg h0 h1
  go_enter Try.func96, Try.ntmps96
  go_wp2
  go_loopw [5, 6] (fun i j wr => ∃ a b m : Nat, a ≤ r ∧ r ≤ b ∧ b ≤ n ∧ i = .int .i64 a ∧ j = .int .i64 b ∧ wr = w.drewN m) (fun i j _ => (intOf j).toNat - (intOf i).toNat)
  case atStart => exact ⟨0, n, 0, by omega, hr, by omega, rfl, rfl, rfl⟩
  case round =>
    obtain ⟨a, b, m, ha, hb, hbn, rfl, rfl, rfl⟩ := hrel
    by_cases hab : a < b
    · obtain ⟨k, hk⟩ : ∃ k : Nat, k = (a + b) / 2 := ⟨_, rfl⟩
      have ek : ((a : Int) + b) / 2 = (k : Int) := by omega
      have hkn : k < n := by omega
      have hlo : a ≤ k := by omega
      have hhi : k < b := by omega
      have HK := Lib.hid hk
      clear hk
      cases hp : p k with
      | true =>
        have hrk : r ≤ k := by
          rcases Nat.lt_or_ge k r with h | h
          · rw [H0.out k h] at hp; cases hp
          · exact h
        go_wp2_with (refine (HG.out k _ hkn).mono ?_; rintro e w' ⟨rfl, m', rfl⟩; rw [hp])
        go_roundw
        case rel => exact ⟨a, k, m', ha, hrk, by omega, rfl, rfl, rfl⟩
        case measure => simp [intOf]; omega
      | false =>
        have hrk : k < r := by
          rcases Nat.lt_or_ge k r with h | h
          · exact h
          · rw [H1.out k h hkn] at hp; cases hp
        go_wp2_with (refine (HG.out k _ hkn).mono ?_; rintro e w' ⟨rfl, m', rfl⟩; rw [hp])
        go_roundw
        case rel => exact ⟨k + 1, b, m', by omega, hb, hbn, by go_num, rfl, rfl⟩
        case measure => simp [intOf]; omega
    · obtain rfl : a = r := by omega
      go_wp2
      go_ret
      exact ⟨rfl, m, rfl⟩

/-- A chain behind a pointer; F bounds all its blocks. -/
def ChainAt (w : World) (F : Nat → Prop) (b : Nat) (c : Chn) : Prop :=
  F b ∧ c.Ok ∧ ∃ v, w.heap[b]? = some (.cells #[v, .int .i64 c.last] 137 (0, 0)) ∧ Ow tVer 134 w (fun k => F k ∧ k ≠ b) v c.l
theorem ChainAt.stab {w w' : World} {F : Nat → Prop} {b : Nat} {c : Chn} (h : ChainAt w F b c) (k : ∀ k, F k → k < w.heap.size → w'.heap[k]? = w.heap[k]?) : ChainAt w' F b c := by
  obtain ⟨hf, ho, v, hb, hw⟩ := h
  exact ⟨hf, ho, v, (k b hf (blk_lt hb)).trans hb, hw.stab fun i hi hl => k i hi.1 hl⟩
theorem ChainAt.fr {S : Nat → Prop} {w w' : World} {F : Nat → Prop} {b : Nat} {c : Chn} (h : ChainAt w F b c) (f : Fr S w w') (hd : ∀ k, F k → ¬ S k) : ChainAt w' F b c := h.stab fun k hk hl => f.block k hl (hd k hk)
theorem ChainAt.fr0 {w w' : World} {F : Nat → Prop} {b : Nat} {c : Chn} (h : ChainAt w F b c) (f : Fr No w w') : ChainAt w' F b c := h.stab fun k hk hl => f.block k hl (fun f => f)
theorem ChainAt.mono {w : World} {F G : Nat → Prop} {b : Nat} {c : Chn} (h : ChainAt w F b c) (k : ∀ k, F k → k < w.heap.size → G k) : ChainAt w G b c := by
  obtain ⟨hf, ho, v, hb, hw⟩ := h
  exact ⟨k b hf (blk_lt hb), ho, v, hb, hw.mono fun i hi hl => ⟨k i hi.1 hl, hi.2⟩⟩

theorem chain_new (w : World) : Calls Try.prog 58 #[] w fun e w' => ∃ b, e = .returned (.pointer (some ⟨b, 0, none⟩)) ∧ ChainAt w' (fun k => w.heap.size ≤ k) b Chn.empty ∧ Fr No w w' := by
  go_enter Try.func58, Try.ntmps58
  go_wp2
  go_ret
  refine ⟨w.heap.size, rfl, ⟨Nat.le_refl _, ⟨List.Pairwise.nil, fun v hv => by cases hv⟩, _, heap_alloc_new w _, Ow.nil⟩, (Fr.refl No w).alloc _⟩

theorem chain_len_nil (w : World) : Calls Try.prog 97 #[.pointer none] w fun e w' => e = .returned (.int .i64 0) ∧ w' = w := by
  go_enter Try.func97, Try.ntmps97
  go_wp2
  go_ret
  exact ⟨rfl, rfl⟩
theorem chain_len {w : World} {F : Nat → Prop} {b : Nat} {c : Chn} (h : ChainAt w F b c) : Calls Try.prog 97 #[.pointer (some ⟨b, 0, none⟩)] w fun e w' => e = .returned (.int .i64 c.l.length) ∧ w' = w := by
  obtain ⟨hf, ho, v, hb, hw⟩ := h
  obtain ⟨A, cp, rfl, hcp, hr⟩ := hw.slice
  have c0 := blk_cell hb 0
  clear hw ho hb hr
  simp at c0
  go_enter Try.func97, Try.ntmps97
  go_wp2
  go_ret
  exact ⟨rfl, rfl⟩
theorem chain_last_nil (w : World) : Calls Try.prog 64 #[.pointer none] w fun e w' => e = .returned (.int .i64 0) ∧ w' = w := by
  go_enter Try.func64, Try.ntmps64
  go_wp2
  go_ret
  exact ⟨rfl, rfl⟩
theorem chain_last {w : World} {F : Nat → Prop} {b : Nat} {c : Chn} (h : ChainAt w F b c) : Calls Try.prog 64 #[.pointer (some ⟨b, 0, none⟩)] w fun e w' => e = .returned (.int .i64 c.last) ∧ w' = w := by
  obtain ⟨hf, ho, v, hb, hw⟩ := h
  have c0 := blk_cell hb 1
  clear hw ho hb
  simp at c0
  go_enter Try.func64, Try.ntmps64
  go_wp2
  go_ret
  exact ⟨rfl, rfl⟩

/-- The function that seen hands to the search. -/
theorem chain_seen1 {w : World} {F : Nat → Prop} {b b1 b2 : Nat} {c : Chn} {a : Int} {i : Nat} (h : ChainAt w F b c) (h1 : w.cell? ⟨b1, 0, none⟩ = some (.pointer (some ⟨b, 0, none⟩))) (h2 : w.cell? ⟨b2, 0, none⟩ = some (.int .i64 a)) (hi : i < c.l.length) :
    Calls Try.prog 98 #[.int .i64 i, .pointer (some ⟨b1, 0, none⟩), .pointer (some ⟨b2, 0, none⟩)] w fun e w' => e = .returned (.bool (decide (a < c.l[i].at_))) ∧ ∃ m, w' = w.drewN m := by
  obtain ⟨hf, ho, v, hb, hw⟩ := h
  obtain ⟨A, cp, rfl, hcp, hr⟩ := hw.slice
  obtain ⟨ad, cs, rfl, hk, e0, e1⟩ := hr.get' hi (by decide)
  obtain ⟨A', c', rfl, -, -⟩ := tVer_open hk
  have x0 := e0 _ rfl
  simp only [show tVer.sz = 3 from rfl] at x0
  have c0 := blk_cell hb 0
  have hi0 : (0 : Int) ≤ (i : Int) := Int.natCast_nonneg _
  have hi1 : (i : Int) < (c.l.length : Int) := by omega
  simp at c0
  clear hw ho hb hr hk e0 e1
  generalize c.l[i].at_ = y at x0 ⊢
  generalize c.l.length = n at *
  go_enter Try.func98, Try.ntmps98
  go_wp2
  go_quiet (fail)
  go_wp2
  go_ret
  exact ⟨rfl, _, rfl⟩

theorem seen_le (c : Chn) (a : Int) : c.seen a ≤ c.l.length := by
  unfold Chn.seen
  exact (List.takeWhile_sublist _).length_le
theorem takeWhile_lt {α : Type} (p : α → Bool) (l : List α) (i : Nat) (h : i < (l.takeWhile p).length) (h' : i < l.length) : p l[i] = true := by
  induction l generalizing i with
  | nil => simp at h
  | cons x l ih =>
    rw [List.takeWhile_cons] at h
    split at h
    · cases i with
      | zero => simpa
      | succ i => simpa using ih i (by simpa using h) (by simpa using h')
    · simp at h
theorem takeWhile_at {α : Type} (p : α → Bool) (l : List α) (h : (l.takeWhile p).length < l.length) : p (l[(l.takeWhile p).length]) = false := by
  induction l with
  | nil => simp at h
  | cons x l ih =>
    by_cases hx : p x = true
    · have e : (x :: l).takeWhile p = x :: l.takeWhile p := by rw [List.takeWhile_cons, if_pos hx]
      simp only [e, List.length_cons, List.getElem_cons_succ] at h ⊢
      exact ih (by simpa using h)
    · have e : (x :: l).takeWhile p = [] := by rw [List.takeWhile_cons, if_neg hx]
      simp only [e, List.length_nil, List.getElem_cons_zero]
      simpa using hx
theorem seen_lo (c : Chn) (a : Int) (i : Nat) (h : i < c.seen a) (h' : i < c.l.length) : c.l[i].at_ ≤ a := by
  simpa using takeWhile_lt (fun v : Ver => decide (v.at_ ≤ a)) c.l i h h'
theorem seen_hi (c : Chn) (ho : c.Ok) (a : Int) (i : Nat) (h : c.seen a ≤ i) (h' : i < c.l.length) : a < c.l[i].at_ := by
  have h0 : c.seen a < c.l.length := by omega
  have h1 := takeWhile_at (fun v : Ver => decide (v.at_ ≤ a)) c.l h0
  have h2 : a < (c.l[c.seen a]'h0).at_ := Int.not_le.1 (of_decide_eq_false h1)
  rcases Nat.lt_or_ge (c.seen a) i with h3 | h3
  · have := List.pairwise_iff_getElem.1 ho.1 (c.seen a) i h0 h' h3
    omega
  · have e : c.seen a = i := by omega
    subst e
    exact h2

theorem chain_seen {w : World} {F : Nat → Prop} {b : Nat} {c : Chn} {a : Int} (h : ChainAt w F b c) (hl : c.l.length ≤ 1000000000) :
    Calls Try.prog 73 #[.pointer (some ⟨b, 0, none⟩), .int .i64 a] w fun e w' => e = .returned (.int .i64 ((c.seen a : Int) - 1)) ∧ Fr No w w' := by
  have H : ∀ m, Fr No w (((w.alloc (.cells #[.pointer (some ⟨b, 0, none⟩)] 111)).alloc (.cells #[.int .i64 a] 2)).drewN m) := fun m => (((Fr.refl No w).alloc _).alloc _).drewN m
  have hs := search_ok 98 #[.pointer (some ⟨w.heap.size, 0, none⟩), .pointer (some ⟨w.heap.size + 1, 0, none⟩)] (fun i => if h : i < c.l.length then decide (a < c.l[i].at_) else true) c.l.length (c.seen a)
    ((w.alloc (.cells #[.pointer (some ⟨b, 0, none⟩)] 111)).alloc (.cells #[.int .i64 a] 2)) hl (seen_le c a)
    (fun i hi => by
      have hi' : i < c.l.length := Nat.lt_of_lt_of_le hi (seen_le c a)
      have := seen_lo c a i hi hi'
      simp only [dif_pos hi']; exact decide_eq_false (by omega))
    (fun i hi hi' => by
      have := seen_hi c h.2.1 a i hi hi'
      simp only [dif_pos hi']; exact decide_eq_true this)
    Try.call98
    (fun i m hi => by
      have := chain_seen1 (b1 := w.heap.size) (b2 := w.heap.size + 1) (a := a) (h.fr0 (H m)) (cell_two1 _ _ _ _) (cell_two2 _ _ _ _) hi
      simp only [hi, dif_pos]
      exact this.mono fun e w' ⟨h1, m', h2⟩ => ⟨h1, m + m', by rw [h2]; simp⟩)
  have hc := chain_len (h.fr0 (H 0))
  have HS := Lib.hid (And.intro hs hc)
  have hn : (c.seen a : Int) ≤ c.l.length := Int.ofNat_le.2 (seen_le c a)
  have hn2 : (c.l.length : Int) ≤ 1000000000 := by omega
  have hn0 : (0 : Int) ≤ c.seen a := Int.natCast_nonneg _
  clear hs hc
  generalize c.seen a = r at *
  go_enter Try.func73, Try.ntmps73
  go_wp2_with (first
    | (go_at_call 97; refine HS.out.2.mono ?_; rintro e w' ⟨rfl, rfl⟩)
    | (go_at_call 96; refine HS.out.1.mono ?_; rintro e w' ⟨rfl, m, rfl⟩))
  go_ret
  exact ⟨rfl, H m⟩
end Go.Proofs.Ytkcppngopdiljaa
/- Reference 1 (value): Join, Bytes, Rise. -/
set_option linter.unusedVariables false
set_option linter.unusedSimpArgs false
namespace Go.Proofs.Ytkcppngopdiljaa
open Go.RowKit

theorem blk_two1 (w : World) (o o' : Obj) : ((w.alloc o).alloc o').heap[w.heap.size]? = some o := by
  rw [Below.heap_alloc _ _ _ (by simp)]; exact heap_alloc_new w o
theorem blk_two2 (w : World) (o o' : Obj) : ((w.alloc o).alloc o').heap[w.heap.size + 1]? = some o' := by
  have := heap_alloc_new (w.alloc o) o'; rwa [World.size_alloc] at this
theorem Rd.set2 {α : Type} {t : Ty α} {w : World} {F : Nat → Prop} {A : Option Addr} {xs : List α} (h : Rd t w F A xs) (p : Addr) (hp : ¬ F p.block) (u : Value) : Rd t (w.setCell p u) F A xs :=
  h.stab fun k hk _ => Below.heap_setCell _ _ _ _ (by rintro rfl; exact hp hk)
theorem u8_at {w : World} {F : Nat → Prop} {A : Option Addr} {xs : Bs} (h : Rd Ty.u8 w F A xs) {i : Nat} (hi : i < xs.length) : ∃ ad, A = some ad ∧ w.cell? (ad.add i) = some (.int .u8 xs[i].toNat) := by
  obtain ⟨ad, c, e, hk, e0, _⟩ := h.get' hi (by decide)
  obtain rfl : c = _ := hk
  have := e0 _ rfl
  rw [show Ty.u8.sz = 1 from rfl, Nat.mul_one] at this
  exact ⟨ad, e, this⟩

theorem ref_join {w : World} {F : Nat → Prop} {A B : Option Addr} {c d : Nat} {xs ys : Bs} (h : Rd Ty.u8 w F A xs) (k : Rd Ty.u8 w F B ys) (hl : xs.length + ys.length ≤ 140737488355328) :
    Calls Try.prog 25 #[.slice A xs.length c, .slice B ys.length d] w fun e w' => ∃ A1 c1, e = .returned (.slice A1 (xs ++ ys).length c1) ∧ Ow Ty.u8 5 w' (fun k => w.heap.size ≤ k) (.slice A1 (xs ++ ys).length c1) (xs ++ ys) ∧ Fr No w w' := by
  rw [List.length_append]
  obtain ⟨cs, hR, hA⟩ := h.at
  have hR' : Row Ty.u8 w (fun i => w.heap.size ≤ i ∧ (Value.slice none 0 0).ownBlock ≠ some i) xs cs := hR.imp fun _ _ h => h
  have H := Lib.hid (And.intro hR' (And.intro hA k))
  clear hR hR' hA h k
  go_enter Try.func25, Try.ntmps25
  go_wp2_with (first
    | (at_builtin; refine ow_append Ty.u8 (Ow.nil (F := fun i => w.heap.size ≤ i)) _ _ (.int .u8 0) 1 rfl rfl Try.underlying27 info_u8 rfl (by decide) (by decide) rfl rfl rfl H.out.1 H.out.2.1 (by simp; omega) ?_; intro A1 c1 w1 hown1 hg hat
       simp only [List.length_nil, Nat.zero_add, List.nil_append] at hown1 ⊢
       have hf1 : Fr No w w1 := (Fr.refl No w).grown hg fun k hk => by simp [Value.ownBlock] at hk
       obtain ⟨ds, hS, hB⟩ := (H.out.2.2.fr0 hf1).at
       have H1 := Lib.hid (And.intro hown1 (And.intro hf1 (And.intro hS hB)))
       clear hown1 hg hat hf1 hS hB)
    | (at_builtin; refine ow_append Ty.u8 H1.out.1 _ _ (.int .u8 0) 1 rfl rfl Try.underlying27 info_u8 rfl (by decide) (by decide) rfl rfl rfl (H1.out.2.2.1.imp fun _ _ h => h) H1.out.2.2.2 (by omega) ?_; intro A2 c2 w2 hown2 hg2 hat2
       have H2 := Lib.hid (And.intro hown2 hg2)
       clear hown2 hg2 hat2))
  go_ret
  refine ⟨A2, c2, rfl, ?_, ?_⟩
  · exact H2.out.1.mono fun k hk _ => by
      have := H1.out.2.1.size
      rcases hk with (hk | hk) | hk <;> omega
  · refine H1.out.2.1.grown H2.out.2 fun k hk => ?_
    have := H1.out.1.own hk
    exact .inr (by rcases this.1 with h | h <;> omega)

theorem drewN_drewN (w : World) (m n : Nat) : (w.drewN m).drewN n = w.drewN (m + n) := by simp [World.drewN, Nat.add_assoc]
theorem ref_bytes_q {w : World} {F G : Nat → Prop} {A B : Option Addr} {c d : Nat} {xs ys : Bs} (h : Rd Ty.u8 w F A xs) (k : Rd Ty.u8 w G B ys) :
    Calls Try.prog 20 #[.slice A xs.length c, .slice B ys.length d] w fun e w' => e = .returned (.bool (decide (xs = ys))) ∧ ∃ m, w' = w.drewN m := by
  have hx := h.1
  have hy := k.1
  by_cases hl : xs.length = ys.length
  · have H := Lib.hid (And.intro h k)
    clear h k
    go_enter Try.func20, Try.ntmps20
    go_wp2
    go_loopw [5] (fun i wr => ∃ k : Nat, k ≤ xs.length ∧ i = .int .i64 k ∧ Hid (xs.take k = ys.take k) ∧ Hid (∃ m, wr = w.drewN m)) (fun i _ => xs.length - (intOf i).toNat)
    case atStart => exact ⟨0, Nat.zero_le _, rfl, by show _ = _; simp, 0, (World.drewN_zero w).symm⟩
    case round =>
      obtain ⟨k, hk, rfl, ht, hm⟩ := hrel
      have hf : Hid (Fr No w wr) := by obtain ⟨m, e⟩ := hm.out; show Fr No w wr; rw [e]; exact (Fr.refl No w).drewN m
      by_cases hlt : k < xs.length
      · obtain ⟨a1, rfl, x0⟩ := u8_at (H.out.1.fr0 hf.out) hlt
        obtain ⟨a2, rfl, y0⟩ := u8_at (H.out.2.fr0 hf.out) (i := k) (by omega)
        have hk0 : (0 : Int) ≤ (k : Int) := Int.natCast_nonneg _
        have hk1 : (k : Int) < (xs.length : Int) := by omega
        have hk2 : (k : Int) < (ys.length : Int) := by omega
        have hk3 : k < ys.length := by omega
        have hnext : xs.take (k + 1) = ys.take (k + 1) ↔ xs[k] = ys[k] := by
          rw [List.take_succ_eq_append_getElem (l := xs) hlt, List.take_succ_eq_append_getElem (l := ys) hk3, ht.out]
          constructor
          · intro e
            have := List.append_cancel_left e
            injection this
          · intro e
            rw [e]
        have hno : xs[k] ≠ ys[k] → xs ≠ ys := fun h e => by subst e; exact h rfl
        have HN := Lib.hid (And.intro hnext hno)
        clear hnext hno ht
        by_cases he : xs[k] = ys[k]
        · rw [← he] at y0
          have HE := Lib.hid he
          clear he
          generalize xs[k].toNat = u at *
          go_wp2
          go_quiet (fail)
          go_wp2
          go_roundw
          case rel => exact ⟨k + 1, by omega, by go_num, HN.out.1.2 HE.out, by obtain ⟨m, e⟩ := hm.out; exact ⟨_, by rw [e]; exact drewN_drewN w m _⟩⟩
          case measure => simp [intOf]; omega
        · have hne : (xs[k].toNat : Int) ≠ (ys[k].toNat : Int) := fun e => he (UInt8.toNat_inj.1 (by omega))
          have HE := Lib.hid (HN.out.2 he)
          clear he
          generalize xs[k].toNat = u at *
          generalize ys[k].toNat = v at *
          go_wp2
          go_quiet (fail)
          go_wp2
          go_ret
          exact ⟨by rw [decide_eq_false HE.out]; rfl, by obtain ⟨m, e⟩ := hm.out; exact ⟨_, by rw [e]; exact drewN_drewN w m _⟩⟩
      · obtain rfl : k = xs.length := by omega
        have : xs = ys := by have := ht.out; rw [List.take_length, hl, List.take_length] at this; exact this
        subst this
        go_wp2
        go_ret
        exact ⟨by simp, hm.out⟩
  · have hne : xs ≠ ys := fun e => hl (by rw [e])
    rw [decide_eq_false hne]
    have hl' : (xs.length : Int) ≠ (ys.length : Int) := fun e => hl (by omega)
    clear h k hne hl
    go_enter Try.func20, Try.ntmps20
    go_wp2
    go_ret
    exact ⟨rfl, 0, (World.drewN_zero w).symm⟩
theorem ref_bytes {w : World} {F G : Nat → Prop} {A B : Option Addr} {c d : Nat} {xs ys : Bs} (h : Rd Ty.u8 w F A xs) (k : Rd Ty.u8 w G B ys) :
    Calls Try.prog 20 #[.slice A xs.length c, .slice B ys.length d] w fun e w' => e = .returned (.bool (decide (xs = ys))) ∧ Fr No w w' := by
  refine (ref_bytes_q h k).mono ?_
  rintro e w' ⟨rfl, m, rfl⟩
  exact ⟨rfl, (Fr.refl No w).drewN m⟩
end Go.Proofs.Ytkcppngopdiljaa
/- What an argument reads as, opened to a list. -/
set_option linter.unusedVariables false
set_option linter.unusedSimpArgs false
namespace Go.Proofs.Ytkcppngopdiljaa
open Go.RowKit Go.Deep

abbrev Old (w : World) : Nat → Prop := fun i => i < w.heap.size
/-- Whatever reads at the type e is an element of t. -/
def Opens {α : Type} (P : Program) (t : Ty α) (e : TypeId) : Prop :=
  P.cellsOf e = t.sz ∧ ∀ (H : Type) (enc : TypeId × Value → H) (w : World) (base : Nat) (spare : Nat → Bool) (held : Bool) (fuel : Nat) (cs : List Value) (x : DataW H × List MemPlace), DataW.trod enc P w base spare held fuel e cs = some x → ∃ v : α, t.K w (Old w) v cs

section
variable {P : Program} {e : TypeId}
theorem Opens.bool (hc : P.cellsOf e = 1) (ht : P.underlying e = some .bool) : Opens P Ty.bool e := by
  refine ⟨hc, fun H enc w base spare held fuel cs x h => ?_⟩
  obtain ⟨b, rfl, _⟩ := DataW.trod_bool ht h
  exact ⟨b, rfl⟩
theorem Opens.int {k : IntKind} (hc : P.cellsOf e = 1) (ht : P.underlying e = some (.int k)) : Opens P (Ty.int k) e := by
  refine ⟨hc, fun H enc w base spare held fuel cs x h => ?_⟩
  obtain ⟨n, rfl, _⟩ := DataW.trod_int ht h
  exact ⟨n, rfl⟩
theorem Opens.u8 (hc : P.cellsOf e = 1) (ht : P.underlying e = some (.int .u8)) : Opens P Ty.u8 e := by
  refine ⟨hc, fun H enc w base spare held fuel cs x h => ?_⟩
  obtain ⟨n, rfl, _, hw⟩ := DataW.trod_int ht h
  have h1 : 0 ≤ n ∧ n ≤ 255 := by
    unfold Lit.wf at hw
    simp [IntKind.wrap, IntKind.signed, IntKind.bits] at hw
    have a := hw.1
    have b := hw.2
    simp [IntKind.min, IntKind.max, IntKind.signed, IntKind.bits] at a b
    omega
  refine ⟨UInt8.ofNat n.toNat, ?_⟩
  show [Value.int .u8 n] = [.int .u8 ((UInt8.ofNat n.toNat).toNat : Int)]
  have : ((UInt8.ofNat n.toNat).toNat : Int) = n := by
    rw [UInt8.toNat_ofNat']
    omega
  rw [this]
theorem Opens.str (hc : P.cellsOf e = 1) (ht : P.underlying e = some .string) : Opens P Ty.str e := by
  refine ⟨hc, fun H enc w base spare held fuel cs x h => ?_⟩
  obtain ⟨s, rfl, _⟩ := DataW.trod_string ht h
  exact ⟨s, rfl⟩
theorem Opens.slice {α : Type} {t : Ty α} {T : TypeId} (O : Opens P t e) (hc : P.cellsOf T = 1) (ht : P.underlying T = some (.slice e)) : Opens P (Ty.slice t) T := by
  refine ⟨hc, fun H enc w base spare held fuel cs x h => ?_⟩
  rcases open_slice ht h with ⟨rfl, _⟩ | ⟨a, len, cap, m, n, D, Pl, rfl, hb, hl, hm, hmm, rfl, hx⟩
  · exact ⟨[], none, 0, rfl, Nat.le_refl _, Rd.nil⟩
  · have hlm : len ≤ m := by rw [hmm]; split <;> omega
    rw [O.1] at hx
    have hall : ∀ k, k ≤ len → ∃ (xs : List α) (cs : List Value), xs.length = k ∧ Row t w (Old w) xs cs ∧ ∀ j u, cs[j]? = some u → w.cell? (a.add j) = some u := by
      intro k
      induction k with
      | zero => exact fun _ => ⟨[], [], rfl, rfl, fun j u hu => by simp at hu⟩
      | succ k ih =>
        intro hk
        obtain ⟨xs, cs, h1, h2, h3⟩ := ih (by omega)
        obtain ⟨cs', h4, h5⟩ := hx k (by omega)
        obtain ⟨v, hv⟩ := O.2 H enc w base spare held n cs' _ h5
        obtain ⟨_, h6, h7⟩ := World.cells?_some h4
        refine ⟨xs ++ [v], cs ++ cs', by simp [h1], h2.append (Row.single hv), fun j u hu => ?_⟩
        have hlen := h2.len
        rcases Nat.lt_or_ge j cs.length with hj | hj
        · rw [List.getElem?_append_left hj] at hu
          exact h3 j u hu
        · rw [List.getElem?_append_right hj] at hu
          have hj' : j - cs.length < t.sz := by have := (List.getElem?_eq_some_iff.1 hu).1; omega
          have := h7 _ hj'
          rw [Go.Deep.add_add, hu] at this
          rw [← this]
          congr 2
          rw [hlen, h1] at hj ⊢
          omega
    obtain ⟨xs, cs, h1, h2, h3⟩ := hall len (Nat.le_refl _)
    refine ⟨xs, some a, cap, by rw [h1], by omega, by rw [h1]; unfold Go.maxLen at hm; omega, cs, h2, fun j u hu => ⟨a, rfl, ?_, h3 j u hu⟩⟩
    have := World.block_lt_of_cell? w _ (h3 j u hu)
    rwa [add_block] at this
theorem open_top {α : Type} {t : Ty α} {T : TypeId} {H : Type} {enc : TypeId × Value → H} {w : World} {base : Nat} {spare : Nat → Bool} {held : Bool} {a : Option Addr} {len cap : Nat} {d : DataW H} {ps : List MemPlace} (O : Opens P (Ty.slice t) T)
    (h : DataW.Trod enc P w base spare held T (.slice a len cap) d ps) : ∃ xs : List α, len = xs.length ∧ len ≤ cap ∧ Rd t w (Old w) a xs := by
  obtain ⟨fuel, hf⟩ := h
  obtain ⟨xs, A, c, e, h1, h2⟩ := O.2 H enc w base spare held fuel _ _ hf
  simp [Value.cells] at e
  obtain ⟨rfl, rfl, rfl⟩ := e
  exact ⟨xs, rfl, h1, h2⟩
end
end Go.Proofs.Ytkcppngopdiljaa
/- Texts in their order, and lists of them that rise: plain functions and facts. -/
set_option linter.unusedVariables false
set_option linter.unusedSimpArgs false
namespace Go.Proofs.Ytkcppngopdiljaa

theorem toList_data (a : ByteArray) : a.toList = a.data.toList := ByteArray.toList_eq a
theorem less_lex : ∀ (x y : List UInt8), Op.bytesLess x y = decide (x < y)
  | [], [] => by simp [Op.bytesLess]
  | _ :: _, [] => by simp [Op.bytesLess]
  | [], _ :: _ => by simp [Op.bytesLess]
  | a :: x, b :: y => by
    rw [Op.bytesLess, less_lex x y, Bool.eq_iff_iff]
    simp only [List.cons_lt_cons_iff, Bool.or_eq_true, Bool.and_eq_true, decide_eq_true_eq, beq_iff_eq]
theorem toList_inj {a b : ByteArray} (h : a.toList = b.toList) : a = b := by
  rw [toList_data, toList_data] at h
  cases a; cases b
  simpa using h
/-- Does a text stand ahead of another? -/
def kl (a b : ByteArray) : Bool := Go.Op.bytesLess a.toList b.toList
theorem kl_eq (a b : ByteArray) : kl a b = decide (a.toList < b.toList) := less_lex _ _
theorem kl_irrefl (a : ByteArray) : kl a a = false := by rw [kl_eq]; exact decide_eq_false (List.lt_irrefl _)
theorem kl_trans {a b c : ByteArray} (h : kl a b = true) (k : kl b c = true) : kl a c = true := by
  rw [kl_eq] at *
  exact decide_eq_true (List.lt_trans (of_decide_eq_true h) (of_decide_eq_true k))
theorem kl_tri {a b : ByteArray} (h : kl a b = false) (k : kl b a = false) : a = b := by
  rw [kl_eq] at *
  exact toList_inj (List.le_antisymm (List.not_lt.1 (of_decide_eq_false k)) (List.not_lt.1 (of_decide_eq_false h)))
theorem kl_asymm {a b : ByteArray} (h : kl a b = true) : kl b a = false := by
  cases hb : kl b a with
  | false => rfl
  | true => have := kl_trans h hb; rw [kl_irrefl] at this; cases this
theorem kl_ne {a b : ByteArray} (h : kl a b = true) : a ≠ b := by rintro rfl; rw [kl_irrefl] at h; cases h
/-- The walk's word for '=='. -/
theorem beq_toList (a b : ByteArray) : (a.toList == b.toList) = decide (a = b) := by
  by_cases h : a = b
  · subst h; simp
  · rw [decide_eq_false h]
    exact beq_false_of_ne fun e => h (toList_inj e)

/-- Rising, each once. -/
def Rising (l : List ByteArray) : Prop := l.Pairwise fun a b => kl a b = true
theorem Rising.nodup {l : List ByteArray} (h : Rising l) : l.Nodup := List.Pairwise.imp (fun h => kl_ne h) h
/-- Two lists that rise, of the same texts, are one. -/
theorem Rising.ext {l m : List ByteArray} (hl : Rising l) (hm : Rising m) (h : ∀ x, x ∈ l ↔ x ∈ m) : l = m := by
  induction l generalizing m with
  | nil =>
    cases m with
    | nil => rfl
    | cons y m => exact absurd ((h y).2 (List.mem_cons_self ..)) (List.not_mem_nil)
  | cons x l ih =>
    cases m with
    | nil => exact absurd ((h x).1 (List.mem_cons_self ..)) (List.not_mem_nil)
    | cons y m =>
      obtain ⟨h1, h2⟩ := List.pairwise_cons.1 hl
      obtain ⟨h3, h4⟩ := List.pairwise_cons.1 hm
      have e : x = y := by
        rcases List.mem_cons.1 ((h x).1 (List.mem_cons_self ..)) with e | e
        · exact e
        · rcases List.mem_cons.1 ((h y).2 (List.mem_cons_self ..)) with e' | e'
          · exact e'.symm
          · have := kl_asymm (h1 y e'); rw [h3 x e] at this; cases this
      subst e
      congr 1
      refine ih h2 h4 fun z => ⟨fun hz => ?_, fun hz => ?_⟩
      · rcases List.mem_cons.1 ((h z).1 (List.mem_cons_of_mem _ hz)) with e | e
        · exact absurd e.symm (kl_ne (h1 z hz))
        · exact e
      · rcases List.mem_cons.1 ((h z).2 (List.mem_cons_of_mem _ hz)) with e | e
        · exact absurd e.symm (kl_ne (h3 z hz))
        · exact e
/-- A text laid into a list that rises. -/
def ins (k : ByteArray) : List ByteArray → List ByteArray
  | [] => [k]
  | x :: l => if kl k x then k :: x :: l else if k = x then x :: l else x :: ins k l
theorem mem_ins {k : ByteArray} {l : List ByteArray} (x : ByteArray) : x ∈ ins k l ↔ x = k ∨ x ∈ l := by
  induction l with
  | nil => simp [ins]
  | cons y l ih =>
    unfold ins
    split
    · simp
    · split
      · rename_i h1 h2; subst h2; simp
      · simp only [List.mem_cons, ih]; constructor
        · rintro (h | h | h) <;> simp [h]
        · rintro (h | h | h) <;> simp [h]
theorem rising_ins {k : ByteArray} {l : List ByteArray} (h : Rising l) : Rising (ins k l) := by
  induction l with
  | nil => exact List.pairwise_singleton _ _
  | cons y l ih =>
    obtain ⟨h1, h2⟩ := List.pairwise_cons.1 h
    unfold ins
    split
    · rename_i hk
      refine List.pairwise_cons.2 ⟨fun z hz => ?_, h⟩
      rcases List.mem_cons.1 hz with e | e
      · rw [e]; exact hk
      · exact kl_trans hk (h1 z e)
    · split
      · exact h
      · rename_i hk hne
        have hyk : kl y k = true := by
          cases hy : kl y k with
          | true => rfl
          | false => exact absurd (kl_tri (by simpa using hk) hy) hne
        refine List.pairwise_cons.2 ⟨fun z hz => ?_, ih h2⟩
        rcases (mem_ins z).1 hz with e | e
        · rw [e]; exact hyk
        · exact h1 z e
/-- All texts of a list, rising, each once. -/
def rise (l : List ByteArray) : List ByteArray := l.foldr ins []
theorem mem_rise {l : List ByteArray} (x : ByteArray) : x ∈ rise l ↔ x ∈ l := by
  induction l with
  | nil => simp [rise]
  | cons y l ih => show x ∈ ins y (rise l) ↔ _; rw [mem_ins, ih, List.mem_cons]
theorem rising_rise (l : List ByteArray) : Rising (rise l) := by
  induction l with
  | nil => exact List.Pairwise.nil
  | cons y l ih => exact rising_ins ih
theorem rise_length (l : List ByteArray) : (rise l).length ≤ l.length := by
  have hi : ∀ k (l : List ByteArray), (ins k l).length ≤ l.length + 1 := by
    intro k l
    induction l with
    | nil => simp [ins]
    | cons y l ih =>
      unfold ins
      split
      · simp
      · split
        · simp
        · simp only [List.length_cons]; omega
  induction l with
  | nil => simp [rise]
  | cons y l ih =>
    have := hi y (rise l)
    show (ins y (rise l)).length ≤ _
    simp only [List.length_cons]
    omega
end Go.Proofs.Ytkcppngopdiljaa
/- Layer 6 (record), as far as a batch may be: plain functions. -/
set_option linter.unusedVariables false
set_option linter.unusedSimpArgs false
namespace Go.Proofs.Ytkcppngopdiljaa

/-- A key's new row, or that it is gone. -/
structure Wr where
  key : ByteArray
  row : Bs
  gone : Bool
def tWr : Ty Wr := Ty.iso (Ty.pair Ty.str (Ty.pair (Ty.slice Ty.u8) Ty.bool)) fun x => (x.key, x.row, x.gone)
theorem tWr_open {w : World} {F : Nat → Prop} {x : Wr} {cs : List Value} (h : tWr.K w F x cs) :
    ∃ A c, cs = [.string x.key, .slice A x.row.length c, .bool x.gone] ∧ x.row.length ≤ c ∧ Rd Ty.u8 w F A x.row := by
  obtain ⟨_, _, rfl, rfl, _, _, rfl, ⟨A, c, rfl, h1, h2⟩, rfl⟩ := h
  exact ⟨A, c, rfl, h1, h2⟩
theorem tWr_mk {w : World} {F : Nat → Prop} {a : ByteArray} {r : Bs} {g : Bool} {A : Option Addr} {c : Nat} (h1 : r.length ≤ c) (h2 : Rd Ty.u8 w F A r) :
    tWr.K w F ⟨a, r, g⟩ [.string a, .slice A r.length c, .bool g] :=
  ⟨_, [_, _], rfl, rfl, [_], [_], rfl, ⟨A, c, rfl, h1, h2⟩, rfl⟩

/-- May a write be, behind another one's key? -/
def fits (x : Wr) (last : ByteArray) : Bool :=
  decide (1 ≤ x.key.size) && decide (x.key.size ≤ 4000) && decide (x.row.length ≤ 4000) && kl last x.key && (!x.gone || decide (x.row.length = 0))
def allFit : ByteArray → List Wr → Bool
  | _, [] => true
  | last, x :: l => fits x last && allFit x.key l
def right (n : Int) (l : List Wr) : Bool := allFit ⟨#[]⟩ l && (decide (1 ≤ n) && decide (1 ≤ l.length) && decide (l.length ≤ 64))

theorem kl_not (a b : ByteArray) : (!(Op.bytesLess a.toList b.toList || a.toList == b.toList)) = kl b a := by
  show (!(kl a b || _)) = _
  rw [beq_toList]
  cases h1 : kl a b with
  | true => rw [kl_asymm h1]; rfl
  | false =>
    by_cases h2 : a = b
    · subst h2; rw [kl_irrefl]; simp
    · cases h3 : kl b a with
      | true => simp [h2]
      | false => exact absurd (kl_tri h1 h3) h2
theorem allFit_append (last : ByteArray) (l : List Wr) (x : Wr) : allFit last (l ++ [x]) = (allFit last l && fits x ((l.getLast?.map Wr.key).getD last)) := by
  induction l generalizing last with
  | nil => simp [allFit]
  | cons y l ih =>
    simp only [List.cons_append, allFit, ih, Bool.and_assoc]
    congr 3
    cases l with
    | nil => simp
    | cons z l =>
      rw [List.getLast?_cons_cons]
      cases hl : (z :: l).getLast? with
      | none => simp at hl
      | some u => simp
theorem allFit_mem {last : ByteArray} {l : List Wr} (h : allFit last l = true) : ∀ x ∈ l, 1 ≤ x.key.size ∧ x.key.size ≤ 4000 ∧ x.row.length ≤ 4000 ∧ (x.gone = true → x.row = []) := by
  induction l generalizing last with
  | nil => intro x hx; cases hx
  | cons y l ih =>
    simp only [allFit, Bool.and_eq_true] at h
    intro x hx
    rcases List.mem_cons.1 hx with rfl | hx
    · have := h.1
      simp only [fits, Bool.and_eq_true, Bool.or_eq_true, decide_eq_true_eq, Bool.not_eq_true'] at this
      refine ⟨this.1.1.1.1, this.1.1.1.2, this.1.1.2, fun hg => ?_⟩
      rcases this.2 with h1 | h1
      · rw [hg] at h1; cases h1
      · exact List.eq_nil_of_length_eq_zero h1
    · exact ih h.2 x hx
end Go.Proofs.Ytkcppngopdiljaa
/- Maps keyed by texts: what a block holds, and what the operations on it do. -/
set_option linter.unusedVariables false
set_option linter.unusedSimpArgs false
namespace Go.Proofs.Ytkcppngopdiljaa
open Go.RowKit Go.MapKept

/-! ### Lists of keys and values -/
def look {β : Type} (k : ByteArray) : List (ByteArray × β) → Option β
  | [] => none
  | p :: l => if p.1 = k then some p.2 else look k l
/-- A key's value in its place, else behind all. -/
def lay {β : Type} (k : ByteArray) (v : β) : List (ByteArray × β) → List (ByteArray × β)
  | [] => [(k, v)]
  | p :: l => if p.1 = k then (k, v) :: l else p :: lay k v l
section
variable {β : Type} {k : ByteArray} {v : β} {l : List (ByteArray × β)}
theorem look_none (h : look k l = none) : ∀ p ∈ l, p.1 ≠ k := by
  induction l with
  | nil => intro p hp; cases hp
  | cons q l ih =>
    unfold look at h
    split at h
    · cases h
    · intro p hp
      rcases List.mem_cons.1 hp with rfl | hp
      · assumption
      · exact ih h p hp
theorem look_mem (h : look k l = some v) : (k, v) ∈ l := by
  induction l with
  | nil => cases h
  | cons q l ih =>
    unfold look at h
    split at h
    · rename_i e; injection h with h; subst e; subst h; exact List.mem_cons_self ..
    · exact List.mem_cons_of_mem _ (ih h)
theorem look_of_mem (hn : (l.map Prod.fst).Nodup) (h : (k, v) ∈ l) : look k l = some v := by
  induction l with
  | nil => cases h
  | cons q l ih =>
    rw [List.map_cons, List.nodup_cons] at hn
    unfold look
    rcases List.mem_cons.1 h with e | h
    · subst e; simp
    · rw [if_neg, ih hn.2 h]
      rintro rfl
      exact hn.1 (List.mem_map.2 ⟨_, h, rfl⟩)
theorem look_none_iff : look k l = none ↔ k ∉ l.map Prod.fst := by
  constructor
  · intro h hm
    obtain ⟨p, hp, e⟩ := List.mem_map.1 hm
    exact look_none h p hp e
  · intro h
    cases hl : look k l with
    | none => rfl
    | some v => exact absurd (List.mem_map.2 ⟨_, look_mem hl, rfl⟩) h
theorem lay_keys (k : ByteArray) (v : β) (l : List (ByteArray × β)) : (lay k v l).map Prod.fst = if look k l = none then l.map Prod.fst ++ [k] else l.map Prod.fst := by
  induction l with
  | nil => simp [lay, look]
  | cons q l ih =>
    unfold lay look
    by_cases h : q.1 = k
    · simp [h]
    · simp only [if_neg h, List.map_cons, ih]; split <;> rfl
theorem lay_nodup (hn : (l.map Prod.fst).Nodup) : ((lay k v l).map Prod.fst).Nodup := by
  rw [lay_keys]
  split
  · rename_i h
    refine List.nodup_append.2 ⟨hn, by simp, fun a ha b hb => ?_⟩
    obtain rfl : b = k := by simpa using hb
    rintro rfl
    exact look_none_iff.1 h ha
  · exact hn
theorem look_lay (k' : ByteArray) : look k' (lay k v l) = if k = k' then some v else look k' l := by
  induction l with
  | nil => unfold lay look; split <;> simp [look]
  | cons q l ih =>
    unfold lay
    by_cases h : q.1 = k
    · rw [if_pos h]; unfold look
      by_cases h2 : k = k'
      · simp [h2]
      · have : ¬ q.1 = k' := fun e => h2 (h.symm.trans e)
        simp [h2, this]
    · rw [if_neg h]; unfold look; rw [ih]
      by_cases h2 : k = k'
      · subst h2; simp [h]
      · simp [h2]
theorem mem_lay (hn : (l.map Prod.fst).Nodup) (p : ByteArray × β) : p ∈ lay k v l ↔ p = (k, v) ∨ (p ∈ l ∧ p.1 ≠ k) := by
  constructor
  · intro h
    have h1 := look_of_mem (lay_nodup hn) (show (p.1, p.2) ∈ lay k v l from h)
    rw [look_lay] at h1
    split at h1
    · rename_i e; injection h1 with h1; left; rw [e, h1]
    · rename_i e; exact .inr ⟨look_mem h1, fun e' => e e'.symm⟩
  · rintro (rfl | ⟨h, hne⟩)
    · exact look_mem (by rw [look_lay]; simp)
    · exact look_mem (k := p.1) (v := p.2) (by rw [look_lay, if_neg (fun e => hne e.symm)]; exact look_of_mem hn h)
theorem lay_length : (lay k v l).length = if look k l = none then l.length + 1 else l.length := by
  induction l with
  | nil => simp [lay, look]
  | cons q l ih =>
    unfold lay look
    by_cases h : q.1 = k
    · simp [h]
    · simp only [if_neg h, List.length_cons, ih]; split <;> rfl
end

/-! ### A map's block -/
structure Es (es : Array MapEntry) (clock : Nat) (l : List (ByteArray × Value)) : Prop where
  ents : es.toList.map (fun e => (e.key, e.val)) = l.map fun p => (Value.string p.1, p.2)
  st : Stamped es clock
def MapIs (w : World) (b : Nat) (l : List (ByteArray × Value)) : Prop := ∃ es clock, w.heap[b]? = some (.map es clock) ∧ Es es clock l

theorem Es.keys {es : Array MapEntry} {clock : Nat} {l : List (ByteArray × Value)} (h : Es es clock l) : es.toList.map (·.key) = l.map fun p => Value.string p.1 := by
  have := congrArg (List.map Prod.fst) h.ents
  simpa [List.map_map, Function.comp_def] using this
theorem Es.nodup {es : Array MapEntry} {clock : Nat} {l : List (ByteArray × Value)} (h : Es es clock l) : (l.map Prod.fst).Nodup := by
  have h1 := h.st.2.2
  rw [h.keys] at h1
  have h2 : (l.map Prod.fst).map Value.string = l.map fun p => Value.string p.1 := by simp [List.map_map, Function.comp_def]
  rw [← h2] at h1
  exact (List.pairwise_map.1 h1).imp fun hne e => hne (by rw [e])
theorem Es.isKey {es : Array MapEntry} {clock : Nat} {l : List (ByteArray × Value)} (h : Es es clock l) : ∀ x ∈ es.toList, IsKey .string x.key := by
  intro x hx
  have : x.key ∈ es.toList.map (·.key) := List.mem_map.2 ⟨x, hx, rfl⟩
  rw [h.keys] at this
  obtain ⟨p, _, e⟩ := List.mem_map.1 this
  rw [← e]
  trivial
theorem Es.at {es : Array MapEntry} {clock : Nat} {l : List (ByteArray × Value)} (h : Es es clock l) {j : Nat} {e : MapEntry} (he : es.toList[j]? = some e) : ∃ p, l[j]? = some p ∧ e.key = .string p.1 ∧ e.val = p.2 := by
  have := congrArg (fun x => x[j]?) h.ents
  simp only [List.getElem?_map, he, Option.map_some] at this
  cases hp : l[j]? with
  | none => rw [hp] at this; cases this
  | some p =>
    rw [hp] at this
    simp only [Option.map_some, Option.some.injEq, Prod.mk.injEq] at this
    exact ⟨p, rfl, this.1, this.2⟩
theorem Es.size {es : Array MapEntry} {clock : Nat} {l : List (ByteArray × Value)} (h : Es es clock l) : es.size = l.length := by
  have := congrArg List.length h.ents
  simpa using this

theorem MapIs.stab {w w' : World} {b : Nat} {l : List (ByteArray × Value)} (h : MapIs w b l) (k : w'.heap[b]? = w.heap[b]?) : MapIs w' b l := by
  obtain ⟨es, c, hb, he⟩ := h
  exact ⟨es, c, k.trans hb, he⟩
theorem MapIs.lt {w : World} {b : Nat} {l : List (ByteArray × Value)} (h : MapIs w b l) : b < w.heap.size := by
  obtain ⟨es, c, hb, he⟩ := h
  exact blk_lt hb
theorem MapIs.nodup {w : World} {b : Nat} {l : List (ByteArray × Value)} (h : MapIs w b l) : (l.map Prod.fst).Nodup := by
  obtain ⟨es, c, hb, he⟩ := h
  exact he.nodup
theorem MapIs.new (w : World) : MapIs (w.alloc (.map #[] 0)) w.heap.size [] := ⟨#[], 0, heap_alloc_new w _, rfl, by simp, by simp, by simp⟩

section
variable {P : Program} {w : World} {b : Nat} {l : List (ByteArray × Value)}
theorem find_now {es : Array MapEntry} {clock : Nat} (h : Es es clock l) (k : ByteArray) :
    (look k l = none ∧ Instr.findNow .string (.string k) es.toList 0 = some none ∧ ∀ x ∈ es.toList, x.key ≠ .string k) ∨
    ∃ j v, look k l = some v ∧ Instr.findNow .string (.string k) es.toList 0 = some (some (j, v)) ∧ l[j]? = some (k, v) ∧ ∃ e, es.toList[j]? = some e ∧ e.key = .string k := by
  rcases findNow_spec (d := .string) (k := .string k) trivial es.toList 0 h.isKey with ⟨h1, h2⟩ | ⟨j, e, h1, h2, h3⟩
  · refine .inl ⟨?_, h1, h2⟩
    cases hl : look k l with
    | none => rfl
    | some v =>
      have hm := look_mem hl
      obtain ⟨j, hj⟩ := List.getElem?_of_mem hm
      have hlt : j < es.toList.length := by
        have := (List.getElem?_eq_some_iff.1 hj).1
        have := h.size
        simp; omega
      obtain ⟨p, hp, hk, _⟩ := h.at (List.getElem?_eq_getElem hlt)
      rw [hj] at hp
      injection hp with hp
      subst hp
      exact absurd hk (h2 _ (List.getElem_mem hlt))
  · obtain ⟨p, hp, hk, hv⟩ := h.at h2
    have e1 : p.1 = k := by rw [h3] at hk; injection hk with hk; exact hk.symm
    refine .inr ⟨j, e.val, ?_, by simpa using h1, ?_, e, h2, h3⟩
    · refine look_of_mem h.nodup ?_
      rw [← e1, hv]
      exact List.mem_of_getElem? hp
    · rw [hp, ← e1, hv]

/-- m[k], without 'ok' and with it. -/
theorem run_map_look (h : MapIs w b l) (t kt et : TypeId) (ht : P.underlying t = some (.map kt et)) (hk : P.underlying kt = some .string) (z : Value) (hz : (zeroValue et).run P w = .ok z w) (k : ByteArray) :
    (Instr.lookup t (.map (some b)) (.string k) false).run P w = .ok ((look k l).getD z) w ∧
    (Instr.lookup t (.map (some b)) (.string k) true).run P w = .ok (.tuple #[(look k l).getD z, .bool (look k l).isSome]) w := by
  obtain ⟨es, c, hb, he⟩ := h
  rcases find_now he k with ⟨h1, h2, _⟩ | ⟨j, v, h1, h2, _⟩
  · constructor <;> simp [Instr.lookup, run_underlying ht, MapKept.run_getObj_map hb, MapKept.run_checkKey hk (show IsKey .string (.string k) from trivial), MapKept.run_findKey hk h2, Result.andThen, hz, h1]
  · constructor <;> simp [Instr.lookup, run_underlying ht, MapKept.run_getObj_map hb, MapKept.run_checkKey hk (show IsKey .string (.string k) from trivial), MapKept.run_findKey hk h2, Result.andThen, h1]

theorem lay_at {β : Type} {l : List (ByteArray × β)} {k : ByteArray} {v v0 : β} (hn : (l.map Prod.fst).Nodup) {j : Nat} (hj : l[j]? = some (k, v0)) : lay k v l = l.set j (k, v) := by
  induction l generalizing j with
  | nil => simp at hj
  | cons q l ih =>
    rw [List.map_cons, List.nodup_cons] at hn
    cases j with
    | zero => obtain rfl : q = (k, v0) := by simpa using hj
              simp [lay]
    | succ j =>
      have hj' : l[j]? = some (k, v0) := by simpa using hj
      have : ¬ q.1 = k := by
        rintro rfl
        exact hn.1 (List.mem_map.2 ⟨_, List.mem_of_getElem? hj', rfl⟩)
      unfold lay
      rw [if_neg this, ih hn.2 hj']
      rfl
theorem lay_new {β : Type} {l : List (ByteArray × β)} {k : ByteArray} {v : β} (h : look k l = none) : lay k v l = l ++ [(k, v)] := by
  induction l with
  | nil => rfl
  | cons q l ih =>
    unfold look at h
    split at h
    · cases h
    · rename_i hne
      unfold lay
      rw [if_neg hne, ih h]
      rfl

/-- m[k] = v. -/
theorem run_map_lay (h : MapIs w b l) (t kt et : TypeId) (ht : P.underlying t = some (.map kt et)) (hk : P.underlying kt = some .string) (k : ByteArray) (v : Value) :
    ∃ w', (Instr.mapUpdate t (.map (some b)) (.string k) v).run P w = .ok () w' ∧ MapIs w' b (lay k v l) ∧ Fr (fun i => i = b) w w' := by
  obtain ⟨es, c, hb, he⟩ := h
  have hfr : ∀ o, Fr (fun i => i = b) w { w with heap := w.heap.setIfInBounds b o } := fun o => ⟨rfl, rfl, rfl, by simp, fun i hi hn => (heap_set hb).2 i hn⟩
  rcases find_now he k with ⟨h1, h2, h3⟩ | ⟨j, v0, h1, h2, h4, e0, h5, h6⟩
  · refine ⟨{ w with heap := w.heap.setIfInBounds b (.map (es.push { key := .string k, val := v, born := c }) (c + 1)) }, ?_, ⟨_, _, (heap_set hb).1, ?_, stamped_push he.st h3⟩, hfr _⟩
    · simp [Instr.mapUpdate, run_underlying ht, MapKept.run_getObj_map hb, MapKept.run_checkKey hk (show IsKey .string (.string k) from trivial), MapKept.run_findKey hk h2, MapKept.run_setObj_map _ hb, Result.andThen]
    · rw [lay_new h1]
      simp [he.ents]
  · have hj : (es[j]?) = some e0 := by simpa using h5
    refine ⟨{ w with heap := w.heap.setIfInBounds b (.map (es.modify j fun e => { e with key := .string k, val := v }) c) }, ?_, ⟨_, _, (heap_set hb).1, ?_, stamped_modify he.st j _ (fun _ _ => rfl) (fun e _ h => ?_)⟩, hfr _⟩
    · simp [Instr.mapUpdate, run_underlying ht, MapKept.run_getObj_map hb, MapKept.run_checkKey hk (show IsKey .string (.string k) from trivial), MapKept.run_findKey hk h2, MapKept.run_setObj_map _ hb, Result.andThen, hj, h6, run_keyThatStays (d := .string) (show IsKey .string (.string k) from trivial)]
    · rw [lay_at he.nodup h4]
      apply List.ext_getElem?
      intro i
      have e1 := congrArg (fun x => x[i]?) he.ents
      simp only [List.getElem?_map] at e1
      simp only [List.getElem?_map, Array.getElem?_toList, Array.getElem?_modify, List.getElem?_set]
      by_cases hij : j = i
      · subst hij
        have hlt : j < l.length := (List.getElem?_eq_some_iff.1 h4).1
        simp [hj, hlt]
      · simp only [if_neg hij]
        rw [← e1]
        simp
    · rw [hj] at h
      injection h with h
      subst h
      exact h6.symm
theorem run_map_len (h : MapIs w b l) : ∃ es c, w.heap[b]? = some (.map es c) ∧ es.size = l.length := by
  obtain ⟨es, c, hb, he⟩ := h
  exact ⟨es, c, hb, he.size⟩
end
end Go.Proofs.Ytkcppngopdiljaa
/- Layer 13 (store): all keys' versions, as plain functions. -/
set_option linter.unusedVariables false
set_option linter.unusedSimpArgs false
namespace Go.Proofs.Ytkcppngopdiljaa

/-- A key's value in a list that rises by its keys. -/
def slay {β : Type} (k : ByteArray) (v : β) : List (ByteArray × β) → List (ByteArray × β)
  | [] => [(k, v)]
  | p :: l => if kl k p.1 then (k, v) :: p :: l else if k = p.1 then (k, v) :: l else p :: slay k v l
section
variable {β : Type} {k : ByteArray} {v : β} {l : List (ByteArray × β)}
theorem slay_keys (k : ByteArray) (v : β) (l : List (ByteArray × β)) : (slay k v l).map Prod.fst = ins k (l.map Prod.fst) := by
  induction l with
  | nil => rfl
  | cons p l ih =>
    unfold slay
    simp only [List.map_cons, ins]
    split
    · rfl
    · split
      · rename_i h; subst h; rfl
      · rw [← ih]; rfl
theorem slay_rising (h : Rising (l.map Prod.fst)) : Rising ((slay k v l).map Prod.fst) := by rw [slay_keys]; exact rising_ins h
theorem look_slay (h : Rising (l.map Prod.fst)) (k' : ByteArray) : look k' (slay k v l) = if k = k' then some v else look k' l := by
  induction l with
  | nil => unfold slay look; split <;> simp [look]
  | cons p l ih =>
    obtain ⟨h1, h2⟩ := List.pairwise_cons.1 h
    unfold slay
    by_cases hk : kl k p.1 = true
    · rw [if_pos hk]; simp only [look]
    · rw [if_neg hk]
      by_cases he : k = p.1
      · rw [if_pos he]
        subst he
        simp only [look]
        split <;> rfl
      · rw [if_neg he]
        simp only [look, ih h2]
        by_cases h3 : p.1 = k'
        · rw [if_pos h3, if_neg (fun e => he (e.trans h3.symm)), if_pos h3]
        · rw [if_neg h3, if_neg h3]
theorem slay_length : (slay k v l).length ≤ l.length + 1 := by
  induction l with
  | nil => simp [slay]
  | cons p l ih =>
    unfold slay
    split
    · simp
    · split
      · simp
      · simp only [List.length_cons]; omega
theorem mem_slay (h : Rising (l.map Prod.fst)) (p : ByteArray × β) (hp : p ∈ slay k v l) : p = (k, v) ∨ p ∈ l := by
  have h1 := look_of_mem (slay_rising h).nodup (show (p.1, p.2) ∈ slay k v l from hp)
  rw [look_slay h] at h1
  split at h1
  · rename_i e; injection h1 with h1; left; rw [e, h1]
  · exact .inr (look_mem h1)
end

/-- Keys, rising, and their chains; how many batches came. -/
structure Sto where
  kc : List (ByteArray × Chn)
  now : Int
namespace Sto
def empty : Sto := ⟨[], 0⟩
def of (s : Sto) (k : ByteArray) : Chn := (look k s.kc).getD Chn.empty
/-- One write of the batch n. -/
def put1 (n : Int) (kc : List (ByteArray × Chn)) (x : Wr) : List (ByteArray × Chn) := slay x.key (((look x.key kc).getD Chn.empty).put n x.row x.gone) kc
def apply (s : Sto) (n : Int) (l : List Wr) : Sto × Int :=
  if right n l = false then (s, 2) else if n = s.now + 1 then (⟨l.foldl (put1 n) s.kc, n⟩, 0) else (s, 1)
def get (s : Sto) (a : Int) (k : ByteArray) : Option Bs := (s.of k).get a
def last (s : Sto) (k : ByteArray) : Int := (s.of k).last
/-- What is seen at a number, from a key on, and below another one. -/
def all (s : Sto) (a : Int) (lo hi : ByteArray) : List (ByteArray × Bs) :=
  s.kc.filterMap fun p => match p.2.get a with
    | some row => if kl p.1 lo = false ∧ (hi.size = 0 ∨ kl p.1 hi = true) then some (p.1, row) else none
    | none => none
def scan (s : Sto) (a : Int) (lo hi : ByteArray) (most : Int) : List (ByteArray × Bs) := (s.all a lo hi).take most.toNat
def cut (s : Sto) (a : Int) : Nat := (s.kc.map fun p => p.2.cut a).sum
def trim (s : Sto) (a : Int) : Sto := ⟨s.kc.map fun p => (p.1, p.2.trim a), s.now⟩
def len (s : Sto) : Nat := (s.kc.map fun p => p.2.l.length).sum
/-- How much there is, at most: m numbers. -/
structure Small (s : Sto) (m : Nat) : Prop where
  now0 : 0 ≤ s.now
  now1 : s.now ≤ m
  keys : s.kc.length ≤ m
  ksz : ∀ p ∈ s.kc, p.1.size ≤ 4000
  chains : ∀ p ∈ s.kc, p.2.l.length ≤ m ∧ p.2.last ≤ s.now ∧ ∀ v ∈ p.2.l, v.row.length ≤ 4000
end Sto

/-! ### What a scan selects -/
abbrev Item := ByteArray × Bs
def tItem : Ty Item := Ty.pair Ty.str (Ty.slice Ty.u8)
theorem tItem_open {w : World} {F : Nat → Prop} {x : Item} {cs : List Value} (h : tItem.K w F x cs) : ∃ A c, cs = [.string x.1, .slice A x.2.length c] ∧ x.2.length ≤ c ∧ Rd Ty.u8 w F A x.2 := by
  obtain ⟨_, _, rfl, rfl, A, c, rfl, h1, h2⟩ := h
  exact ⟨A, c, rfl, h1, h2⟩
theorem tItem_mk {w : World} {F : Nat → Prop} {a : ByteArray} {r : Bs} {A : Option Addr} {c : Nat} (h1 : r.length ≤ c) (h2 : Rd Ty.u8 w F A r) : tItem.K w F (a, r) [.string a, .slice A r.length c] :=
  ⟨[_], [_], rfl, rfl, A, c, rfl, h1, h2⟩
namespace Sto
def sel (a : Int) (lo hi : ByteArray) (p : ByteArray × Chn) : Option Item :=
  match p.2.get a with
  | some row => if kl p.1 lo = false ∧ (hi.size = 0 ∨ kl p.1 hi = true) then some (p.1, row) else none
  | none => none
theorem all_eq (s : Sto) (a : Int) (lo hi : ByteArray) : s.all a lo hi = s.kc.filterMap (sel a lo hi) := rfl
theorem sel_none {a : Int} {lo hi : ByteArray} {p : ByteArray × Chn} (h0 : hi.size ≠ 0) (h : kl p.1 hi = false) : sel a lo hi p = none := by
  unfold sel
  split
  · rw [if_neg (by rw [h]; simp [h0])]
  · rfl
theorem scan_stop1 {s : Sto} {a : Int} {lo hi : ByteArray} {most : Int} {k : Nat} (h : most ≤ (((s.kc.take k).filterMap (sel a lo hi)).length : Int)) (h' : (((s.kc.take k).filterMap (sel a lo hi)).length : Int) ≤ max most 0) :
    s.scan a lo hi most = (s.kc.take k).filterMap (sel a lo hi) := by
  have e : most.toNat = ((s.kc.take k).filterMap (sel a lo hi)).length := by omega
  unfold scan
  have h2 := List.filterMap_append (f := sel a lo hi) (l := s.kc.take k) (l' := s.kc.drop k)
  rw [List.take_append_drop] at h2
  rw [all_eq, e, h2]
  exact List.take_left
theorem scan_stop2 {s : Sto} {a : Int} {lo hi : ByteArray} {most : Int} {k : Nat} (hr : Rising (s.kc.map Prod.fst)) (hk : k < s.kc.length) (h0 : hi.size ≠ 0) (hh : kl s.kc[k].1 hi = false) (h' : (((s.kc.take k).filterMap (sel a lo hi)).length : Int) ≤ max most 0) :
    s.scan a lo hi most = (s.kc.take k).filterMap (sel a lo hi) := by
  have e : s.kc.filterMap (sel a lo hi) = (s.kc.take k).filterMap (sel a lo hi) := by
    conv => lhs; rw [← List.take_append_drop k s.kc]
    rw [List.filterMap_append]
    have : (s.kc.drop k).filterMap (sel a lo hi) = [] := by
      rw [List.filterMap_eq_nil_iff]
      intro p hp
      refine sel_none h0 ?_
      obtain ⟨j, hj, rfl⟩ := List.mem_drop_iff_getElem.1 hp
      rcases Nat.eq_zero_or_pos j with rfl | hj0
      · exact hh
      · have h1 := List.pairwise_iff_getElem.1 (List.pairwise_map.1 hr) k (k + j) hk (by omega) (by omega)
        cases h2 : kl (s.kc[k + j]'(by omega)).1 hi with
        | false => rfl
        | true => have := kl_trans h1 h2; rw [hh] at this; cases this
    rw [this, List.append_nil]
  unfold scan
  rw [all_eq, e]
  exact List.take_of_length_le (by omega)
theorem scan_end {s : Sto} {a : Int} {lo hi : ByteArray} {most : Int} (h' : ((s.kc.filterMap (sel a lo hi)).length : Int) ≤ max most 0) : s.scan a lo hi most = s.kc.filterMap (sel a lo hi) := by
  unfold scan
  rw [all_eq]
  exact List.take_of_length_le (by omega)
theorem sel_step {s : Sto} {a : Int} {lo hi : ByteArray} {k : Nat} (hk : k < s.kc.length) : (s.kc.take (k + 1)).filterMap (sel a lo hi) = (s.kc.take k).filterMap (sel a lo hi) ++ (sel a lo hi s.kc[k]).toList := by
  rw [List.take_succ_eq_append_getElem hk, List.filterMap_append]
  cases h : sel a lo hi s.kc[k] <;> simp [h]
end Sto
end Go.Proofs.Ytkcppngopdiljaa
/- Layer 12 (chain), second part: Get, Put, Trim. -/
set_option linter.unusedVariables false
set_option linter.unusedSimpArgs false
namespace Go.Proofs.Ytkcppngopdiljaa
open Go.RowKit

theorem chain_seen_nil (a : Int) (w : World) : Calls Try.prog 73 #[.pointer none, .int .i64 a] w fun e w' => e = .returned (.int .i64 (-1)) ∧ Fr No w w' := by
  have H : ∀ m, Fr No w (((w.alloc (.cells #[.pointer none] 111)).alloc (.cells #[.int .i64 a] 2)).drewN m) := fun m => (((Fr.refl No w).alloc _).alloc _).drewN m
  have hs := search_ok 98 #[.pointer (some ⟨w.heap.size, 0, none⟩), .pointer (some ⟨w.heap.size + 1, 0, none⟩)] (fun i => true) 0 0
    ((w.alloc (.cells #[.pointer none] 111)).alloc (.cells #[.int .i64 a] 2)) (by omega) (by omega) (fun i hi => by omega) (fun i hi hi' => by omega) Try.call98 (fun i m hi => by omega)
  have HS := Lib.hid hs
  clear hs
  go_enter Try.func73, Try.ntmps73
  go_wp2_with (first
    | (go_at_call 97; refine (chain_len_nil _).mono ?_; rintro e w' ⟨rfl, rfl⟩)
    | (go_at_call 96; refine HS.out.mono ?_; rintro e w' ⟨rfl, m, rfl⟩))
  go_ret
  exact ⟨rfl, H m⟩

/-- A row, or none, as two results. -/
def RowOk (w w' : World) (e : Ending) (r : Option Bs) : Prop :=
  ∃ A1 c1, e = .returned (.tuple #[.slice A1 (r.getD []).length c1, .bool r.isSome]) ∧ Ow Ty.u8 5 w' (fun k => w.heap.size ≤ k) (.slice A1 (r.getD []).length c1) (r.getD [])

theorem chain_get_nil (a : Int) (w : World) : Calls Try.prog 56 #[.pointer none, .int .i64 a] w fun e w' => RowOk w w' e none ∧ Fr No w w' := by
  go_enter Try.func56, Try.ntmps56
  go_wp2_with (go_at_call 73; refine (chain_seen_nil _ _).mono ?_; rintro e w' ⟨rfl, hf⟩)
  go_ret2
  exact ⟨⟨none, 0, rfl, Ow.nil⟩, hf⟩

theorem chain_get {w : World} {F : Nat → Prop} {b : Nat} {c : Chn} {a : Int} (h : ChainAt w F b c) (hl : c.l.length ≤ 1000000000) (hr : ∀ v ∈ c.l, v.row.length ≤ 1000000000) :
    Calls Try.prog 56 #[.pointer (some ⟨b, 0, none⟩), .int .i64 a] w fun e w' => RowOk w w' e (c.get a) ∧ Fr No w w' := by
  have hle := seen_le c a
  have hs := chain_seen (a := a) h hl
  obtain ⟨hf, ho, v, hb, hw⟩ := h
  obtain ⟨A, cp, rfl, hcp, hrd⟩ := hw.slice
  have c0 := blk_cell hb 0
  have lb := blk_lt hb
  simp at c0
  by_cases h0 : c.seen a = 0
  · have hg : c.get a = none := by unfold Chn.get; split <;> simp [h0]
    rw [hg]
    rw [h0] at hs
    have HS := Lib.hid hs
    clear hs c0 hw hb ho hrd hle h0 hg hr
    go_enter Try.func56, Try.ntmps56
    go_wp2_with (go_at_call 73; refine HS.out.mono ?_; rintro e w' ⟨rfl, hf⟩)
    go_ret2
    exact ⟨⟨none, 0, rfl, Ow.nil⟩, hf⟩
  · have hi : c.seen a - 1 < c.l.length := by omega
    obtain ⟨i, hie⟩ : ∃ i, c.seen a = i + 1 := ⟨c.seen a - 1, by omega⟩
    have hi : i < c.l.length := by omega
    have hget : c.get a = if c.l[i].gone then none else some c.l[i].row := by
      unfold Chn.get
      rw [hie]
      simp [hi]
    rw [hget]
    rw [hie] at hs
    have hrow : c.l[i].row.length ≤ 1000000000 := hr _ (List.getElem_mem hi)
    have HS := Lib.hid hs
    have HR := Lib.hid hrd
    have hi0 : (0 : Int) ≤ (i : Int) := Int.natCast_nonneg _
    have hi1 : (i : Int) < (c.l.length : Int) := by omega
    clear hs hw hb ho hle h0 hr hrd hie hget
    have H1 : ∀ w1, Fr No w w1 → ∃ ad A' c', A = some ad ∧ w1.cell? (ad.add (i * 3)) = some (.int .i64 c.l[i].at_) ∧ w1.cell? ⟨(ad.add (i * 3)).block, (ad.add (i * 3)).off + 1, none⟩ = some (.slice A' c.l[i].row.length c') ∧
        w1.cell? ⟨(ad.add (i * 3)).block, (ad.add (i * 3)).off + 2, none⟩ = some (.bool c.l[i].gone) ∧ Rd Ty.u8 w1 (fun k => F k ∧ k ≠ b) A' c.l[i].row ∧ w1.cell? ⟨b, 0, none⟩ = some (.slice A c.l.length cp) := by
      intro w1 f
      obtain ⟨ad, cs, e, hk, e0, e1⟩ := (HR.out.fr0 f).get' hi (by decide)
      obtain ⟨A', c', rfl, _, hq⟩ := tVer_open hk
      exact ⟨ad, A', c', e, e0 _ rfl, e1 1 _ (by decide) rfl, e1 2 _ (by decide) rfl, hq, (f.to_below.cell (p := ⟨b, 0, none⟩) lb).trans c0⟩
    have H1 := Lib.hid H1
    generalize c.l[i].gone = g at *
    generalize c.l[i].row = row at *
    generalize c.l[i].at_ = y at *
    generalize c.l.length = n at *
    cases g
    · go_enter Try.func56, Try.ntmps56
      go_wp2_with (first
        | (go_at_call 73; refine HS.out.mono ?_; rintro e w1 ⟨rfl, hf1⟩; obtain ⟨ad, A', c', rfl, x0, x1, x2, hq, xb⟩ := H1.out w1 hf1)
        | (go_simp; go_at_call 31; refine (clone_ok hq rfl (by omega)).mono ?_; rintro e w2 ⟨A1, c1, rfl, ho2, hf2⟩))
      go_ret2
      exact ⟨⟨A1, c1, rfl, ho2.mono fun k hk _ => by have := hf1.size; omega⟩, hf1.trans (hf2.mono fun _ _ f => f.elim)⟩
    · go_enter Try.func56, Try.ntmps56
      go_wp2_with (go_at_call 73; refine HS.out.mono ?_; rintro e w1 ⟨rfl, hf1⟩; obtain ⟨ad, A', c', rfl, x0, x1, x2, hq, xb⟩ := H1.out w1 hf1)
      go_ret2
      exact ⟨⟨none, 0, rfl, Ow.nil⟩, hf1⟩

theorem Ow.set {α : Type} {t : Ty α} {e : TypeId} {w : World} {F : Nat → Prop} {v : Value} {xs : List α} (h : Ow t e w F v xs) (p : Addr) (hp : ¬ F p.block) (u : Value) : Ow t e (w.setCell p u) F v xs :=
  h.stab fun k hk _ => Below.heap_setCell _ _ _ _ (by rintro rfl; exact hp hk)
theorem Chn.ok_put {c : Chn} (h : c.Ok) {a : Int} (ha : c.last < a) (row : Bs) (gone : Bool) : (c.put a row gone).Ok := by
  refine ⟨List.pairwise_append.2 ⟨h.1, List.pairwise_singleton _ _, fun x hx y hy => ?_⟩, fun v hv => ?_⟩
  · have := h.2 x hx
    obtain rfl : y = _ := by simpa using hy
    show x.at_ < a
    omega
  · rcases List.mem_append.1 hv with hv | hv
    · have := h.2 v hv
      show v.at_ ≤ a
      omega
    · obtain rfl : v = _ := by simpa using hv
      exact Int.le_refl _

theorem chain_shut {w w3 : World} {F : Nat → Prop} {b : Nat} {c : Chn} {v v3 : Value} {a0 : Int} (hf : F b) (lb : b < w.heap.size) (ho : c.Ok) (hb : w3.heap[b]? = some (.cells #[v, .int .i64 a0] 137 (0, 0)))
    (hw : Ow tVer 134 w3 (fun k => (F k ∧ k ≠ b) ∨ w.heap.size ≤ k) v3 c.l) (hW : Fr F w w3) :
    ChainAt ((w3.setCell ⟨b, 0, none⟩ v3).setCell ⟨b, 1, none⟩ (.int .i64 c.last)) (fun k => F k ∨ w.heap.size ≤ k) b c ∧ Fr F w ((w3.setCell ⟨b, 0, none⟩ v3).setCell ⟨b, 1, none⟩ (.int .i64 c.last)) := by
  refine ⟨⟨.inl hf, ho, v3, by simpa using blk_set (blk_set hb 0 v3) 1 (.int .i64 c.last), ?_⟩, (hW.set _ (.inl hf) _).set _ (.inl hf) _⟩
  have hn : ¬ ((F b ∧ b ≠ b) ∨ w.heap.size ≤ b) := by rintro (⟨_, h⟩ | h); exact h rfl; omega
  refine ((hw.set _ hn _).set _ hn _).mono fun k hk _ => ?_
  rcases hk with hk | hk
  · exact ⟨.inl hk.1, hk.2⟩
  · exact ⟨.inr hk, by omega⟩

set_option maxHeartbeats 1000000 in
theorem chain_put {w : World} {F G : Nat → Prop} {b : Nat} {c : Chn} {a : Int} {A2 : Option Addr} {c2 : Nat} {row : Bs} {gone : Bool} (h : ChainAt w F b c) (hl : c.l.length ≤ 1000000000) (hrow : row.length ≤ 1000000000)
    (hR : Rd Ty.u8 w G A2 row) (ha : c.last < a) :
    Calls Try.prog 59 #[.pointer (some ⟨b, 0, none⟩), .int .i64 a, .slice A2 row.length c2, .bool gone] w fun e w' =>
      e = .returned (.int .i64 0) ∧ ChainAt w' (fun k => F k ∨ w.heap.size ≤ k) b (c.put a row gone) ∧ Fr F w w' := by
  obtain ⟨hf, ho, v, hb, hw⟩ := h
  have ho' := Chn.ok_put ho ha row gone
  obtain ⟨A, cp, rfl, hcp, hrd⟩ := hw.slice
  have c0 := blk_cell hb 0
  have c1 := blk_cell hb 1
  have lb := blk_lt hb
  simp at c0 c1
  have hsz : ∀ k, (Value.slice A c.l.length cp).ownBlock = some k → k < w.heap.size := fun k hk => (hw.own hk).2
  have hown : ∀ w1, Fr No w w1 → Ow tVer 134 w1 (fun k => (F k ∧ k ≠ b) ∨ w.heap.size ≤ k) (.slice A c.l.length cp) c.l := fun w1 f => (hw.mono fun k hk _ => .inl hk).fr0 f
  have hne : (Value.slice A c.l.length cp).ownBlock ≠ some b := fun hk => (hw.own hk).1.2 rfl
  have HN := Lib.hid hne
  clear hne
  have HH := Lib.hid (And.intro hsz (And.intro hown (And.intro hb (And.intro hR (And.intro hl (And.intro hrow (And.intro ho' (And.intro hf hw))))))))
  clear hb hw hR hrd ho hl hrow ho' hsz hown hf
  have h1 : ∀ w1, Fr No w w1 → w1.heap[b]? = some (.cells #[.slice A c.l.length cp, .int .i64 c.last] 137 (0, 0)) := fun w1 f => f.blk HH.out.2.2.1 (fun f => f)
  have H1 := Lib.hid h1
  clear h1
  go_enter Try.func59, Try.ntmps59
  go_wp2_with fail
  go_region_law
    (first
      | (go_simp; go_at_call 31; refine (clone_ok (HH.out.2.2.2.1.fr0 ((Fr.refl No w).drew)) rfl (by have := HH.out; omega)).mono ?_; rintro e w2 ⟨A1, c1', rfl, ho2, hf2⟩
         have hf3 : Fr No w w2 := ((Fr.refl No w).drew).trans (hf2.mono fun _ _ f => f.elim); have k2 := blk_cell (H1.out _ hf3) 0; simp at k2; have k2a : ∀ o, (w2.alloc o).cell? ⟨b, 0, none⟩ = some (.slice A c.l.length cp) := fun o => cell_alloc k2 o)
      | (refine ow_append_step tVer (ys := [⟨a, row, gone⟩]) (HH.out.2.1 _ (by repeat (first | exact hf3 | apply Fr.alloc | apply Fr.drew | apply Fr.drewN))) _ _ _ 40 rfl rfl Try.underlying135 info_ver rfl (by decide) (by decide) rfl rfl rfl
           (Row.single (tVer_mk (A := A1) (c := c1') ho2.rd.2.1 (by
              refine (ho2.rd.2.2.fr0 ((Fr.refl No w2).alloc _)).mono fun k hk _ => ?_
              have hk' : w.heap.size ≤ k := hk
              exact ⟨.inr hk', fun he => by have := HH.out.1 k he; omega⟩))) (At.block (heap_alloc_new _ _)) (by have := HH.out; simp; omega) ?_
         intro A3 c3 w3 hown3 hg3 hat3
         have hb3 : w3.heap[b]? = some _ := (hg3.block b (by simp; have := hf3.size; omega) (fun e => HN.out e.symm)).trans (H1.out _ (hf3.alloc _))
         have k0 := blk_cell hb3 0; have k1 := blk_cell hb3 1; have z0 := blk_frozen hb3 0; have z1 := blk_frozen hb3 1; simp at k0 k1
         have HB3 := Lib.hid hb3; clear hb3; have hW : Fr F w w3 := ((hf3.alloc _).mono (fun _ _ f => f.elim)).grown hg3 (fun k hk => by have := HH.out; first | exact .inl ((this.2.2.2.2.2.2.2.2.own hk).1.1) | skip)))
  all_goals
    have hown4 : Ow tVer 134 w3 (fun k => (F k ∧ k ≠ b) ∨ w.heap.size ≤ k) (.slice A3 (c.l.length + 1) c3) (c.put a row gone).l := hown3.mono fun k hk _ => by
      rcases hk with hk | hk
      · exact hk
      · simp at hk; have := hf3.size; exact .inr (by omega)
    have HO := Lib.hid hown4
    clear hown3 hg3 hat3 hown4 k2 hf2 ho2 hf3
    go_wp2
    go_ret
    have := chain_shut HH.out.2.2.2.2.2.2.2.1 lb HH.out.2.2.2.2.2.2.1 HB3.out HO.out hW
    exact ⟨rfl, this.1, this.2⟩
end Go.Proofs.Ytkcppngopdiljaa
/- Layer 12 (chain), third part: Trim. -/
set_option linter.unusedVariables false
set_option linter.unusedSimpArgs false
namespace Go.Proofs.Ytkcppngopdiljaa
open Go.RowKit

theorem Chn.ok_trim {c : Chn} (h : c.Ok) (a : Int) : (c.trim a).Ok :=
  ⟨h.1.sublist (List.drop_sublist _ _), fun v hv => h.2 v (List.mem_of_mem_drop hv)⟩

theorem chain_shut1 {w w3 : World} {F : Nat → Prop} {b : Nat} {c : Chn} {v v3 : Value} (hf : F b) (lb : b < w.heap.size) (ho : c.Ok) (hb : w3.heap[b]? = some (.cells #[v, .int .i64 c.last] 137 (0, 0)))
    (hw : Ow tVer 134 w3 (fun k => (F k ∧ k ≠ b) ∨ w.heap.size ≤ k) v3 c.l) (hW : Fr F w w3) :
    ChainAt (w3.setCell ⟨b, 0, none⟩ v3) (fun k => F k ∨ w.heap.size ≤ k) b c ∧ Fr F w (w3.setCell ⟨b, 0, none⟩ v3) := by
  refine ⟨⟨.inl hf, ho, v3, by simpa using blk_set hb 0 v3, ?_⟩, hW.set _ (.inl hf) _⟩
  have hn : ¬ ((F b ∧ b ≠ b) ∨ w.heap.size ≤ b) := by rintro (⟨_, h⟩ | h); exact h rfl; omega
  refine (hw.set _ hn _).mono fun k hk _ => ?_
  rcases hk with hk | hk
  · exact ⟨.inl hk.1, hk.2⟩
  · exact ⟨.inr hk, by omega⟩

end Go.Proofs.Ytkcppngopdiljaa
/- Layer 6 (record): may a batch be? -/
set_option linter.unusedVariables false
set_option linter.unusedSimpArgs false
namespace Go.Proofs.Ytkcppngopdiljaa
open Go.RowKit

set_option maxHeartbeats 1000000 in
theorem fits_ok {w : World} (k last : ByteArray) (g : Bool) (A : Option Addr) (c : Nat) (r : Bs) (hk : k.size ≤ 9223372036854775807) (hr : r.length ≤ 9223372036854775807) :
    Calls Try.prog 74 #[.agg #[.string k, .slice A r.length c, .bool g], .string last] w fun e w' => e = .returned (.bool (fits ⟨k, r, g⟩ last)) ∧ Fr No w w' := by
  have hf : fits ⟨k, r, g⟩ last = (decide (1 ≤ k.size) && decide (k.size ≤ 4000) && decide (r.length ≤ 4000) && (!(Op.bytesLess k.toList last.toList || k.toList == last.toList)) && (!g || decide (r.length = 0))) := by
    rw [kl_not]; rfl
  rw [hf]
  clear hf
  generalize r.length = n at *
  have e0 : decide (n = 0) = ((n : Int) == 0) := by rw [Bool.eq_iff_iff]; simp
  rw [e0]
  clear e0
  have hn0 : (0 : Int) ≤ (n : Int) := Int.natCast_nonneg _
  have hk0 : (0 : Int) ≤ (k.size : Int) := Int.natCast_nonneg _
  have HF := Lib.hid ((Fr.refl No w).alloc (.cells #[.string k, .slice A n c, .bool g] 43))
  by_cases h1 : 1 ≤ k.size
  · by_cases h2 : k.size ≤ 4000
    · by_cases h3 : n ≤ 4000
      · cases h4 : Op.bytesLess k.toList last.toList <;> cases h5 : (k.toList == last.toList)
        · cases g
          · go_enter Try.func74, Try.ntmps74
            go_wp2
            all_goals (go_ret; exact ⟨by simp [*], HF.out⟩)
          · cases h6 : ((n : Int) == 0)
            all_goals
              go_enter Try.func74, Try.ntmps74
              go_wp2
              all_goals (go_ret; exact ⟨by simp [*], HF.out⟩)
        all_goals
          go_enter Try.func74, Try.ntmps74
          go_wp2
          all_goals (go_ret; exact ⟨by simp [*], HF.out⟩)
      · go_enter Try.func74, Try.ntmps74
        go_wp2
        all_goals (go_ret; exact ⟨by simp [*], HF.out⟩)
    · go_enter Try.func74, Try.ntmps74
      go_wp2
      all_goals (go_ret; exact ⟨by simp [*], HF.out⟩)
  · go_enter Try.func74, Try.ntmps74
    go_wp2
    all_goals (go_ret; exact ⟨by simp [*], HF.out⟩)

/-- Each element's cells, wherever the loop stands. -/
theorem wr_at {w : World} {F : Nat → Prop} {A : Option Addr} {ws : List Wr} (h : Rd tWr w F A ws) {i : Nat} (hi : i < ws.length) :
    ∃ ad A' c', A = some ad ∧ w.cell? (ad.add (i * 3)) = some (.string ws[i].key) ∧ w.cell? ⟨(ad.add (i * 3)).block, (ad.add (i * 3)).off + 1, none⟩ = some (.slice A' ws[i].row.length c') ∧
      w.cell? ⟨(ad.add (i * 3)).block, (ad.add (i * 3)).off + 2, none⟩ = some (.bool ws[i].gone) ∧ ws[i].row.length ≤ c' ∧ Rd Ty.u8 w F A' ws[i].row := by
  obtain ⟨ad, cs, e, hk, e0, e1⟩ := h.get' hi (by decide)
  obtain ⟨A', c', rfl, h1, h2⟩ := tWr_open hk
  exact ⟨ad, A', c', e, e0 _ rfl, e1 1 _ (by decide) rfl, e1 2 _ (by decide) rfl, h1, h2⟩
def lastKey (last : ByteArray) (l : List Wr) : ByteArray := (l.getLast?.map Wr.key).getD last
theorem allFit_take {last : ByteArray} {l : List Wr} {i : Nat} (hi : i < l.length) : allFit last (l.take (i + 1)) = (allFit last (l.take i) && fits l[i] (lastKey last (l.take i))) := by
  rw [List.take_succ_eq_append_getElem hi, allFit_append]; rfl
theorem allFit_prefix {last : ByteArray} {l : List Wr} (i : Nat) (h : allFit last l = true) : allFit last (l.take i) = true := by
  induction l generalizing last i with
  | nil => simpa using h
  | cons y l ih =>
    cases i with
    | zero => rfl
    | succ i => simp only [allFit, Bool.and_eq_true, List.take_succ_cons] at h ⊢; exact ⟨h.1, ih _ h.2⟩
theorem lastKey_take {last : ByteArray} {l : List Wr} {i : Nat} (hi : i < l.length) : lastKey last (l.take (i + 1)) = l[i].key := by
  unfold lastKey; rw [List.take_succ_eq_append_getElem hi, List.getLast?_concat]; rfl

set_option maxHeartbeats 1000000 in
theorem right_ok {w : World} {F : Nat → Prop} (n : Int) (A : Option Addr) (c : Nat) (ws : List Wr) (h : Rd tWr w F A ws) (hl : ws.length ≤ 1000000000) (hk : ∀ x ∈ ws, x.key.size ≤ 9223372036854775807) :
    Calls Try.prog 57 #[.agg #[.int .i64 n, .slice A ws.length c]] w fun e w' => e = .returned (.bool (right n ws)) ∧ Fr No w w' := by
  have HR := Lib.hid h
  have HK := Lib.hid hk
  clear h hk
  go_enter Try.func57, Try.ntmps57
  go_wp2
  go_loopw [3, 9] (fun last i wr => ∃ k : Nat, k ≤ ws.length ∧ i = .int .i64 k ∧ last = .string (lastKey ⟨#[]⟩ (ws.take k)) ∧ Hid (allFit ⟨#[]⟩ (ws.take k) = true) ∧ Hid (Fr No (w.alloc (.cells #[.int .i64 n, .slice A ws.length c] 40)) wr)) (fun _ i _ => ws.length - (intOf i).toNat)
  case atStart => exact ⟨0, Nat.zero_le _, rfl, rfl, rfl, Fr.refl _ _⟩
  case round =>
    obtain ⟨k, hk, rfl, rfl, ha, hf⟩ := hrel
    have hb1 : wr.cell? ⟨w.heap.size, 1, none⟩ = some (.slice A ws.length c) := hf.out.cell (by simp) (fun f => f)
    have hb0 : wr.cell? ⟨w.heap.size, 0, none⟩ = some (.int .i64 n) := hf.out.cell (by simp) (fun f => f)
    have hwr : Fr No w wr := (((Fr.refl No w).alloc _).trans (hf.out.mono fun _ _ f => f.elim))
    have hn1 : (ws.length : Int) ≤ 1000000000 := by omega
    by_cases hlt : k < ws.length
    · obtain ⟨ad, A', c', rfl, x0, x1, x2, _, hrd⟩ := wr_at (HR.out.fr0 hwr) hlt
      have hrow : ws[k].row.length ≤ 9223372036854775807 := hrd.1
      have hfit := allFit_take (last := ⟨#[]⟩) hlt
      rw [ha.out, Bool.true_and] at hfit
      have hkey := lastKey_take (last := ⟨#[]⟩) hlt
      have hsz := HK.out _ (List.getElem_mem hlt)
      obtain ⟨x, hx⟩ : ∃ x, ws[k] = x := ⟨_, rfl⟩
      rw [hx] at x0 x1 x2 hfit hkey hsz hrow
      have hk0 : (0 : Int) ≤ (k : Int) := Int.natCast_nonneg _
      have hk1 : (k : Int) < (ws.length : Int) := by omega
      have HFit := Lib.hid (And.intro hfit (And.intro hkey hwr))
      clear hfit hkey hx hwr hrd
      cases hfx : fits x (lastKey ⟨#[]⟩ (ws.take k))
      · have hno : Hid (right n ws = false) := by
          have : allFit ⟨#[]⟩ ws = false := by
            cases hA : allFit ⟨#[]⟩ ws with
            | false => rfl
            | true => have := allFit_prefix (k + 1) hA; rw [HFit.out.1, hfx] at this; cases this
          show _ = _
          unfold right
          rw [this]; rfl
        go_wp2_with (go_at_call 74; refine (fits_ok _ _ _ _ _ _ hsz hrow).mono ?_; rintro e w1 ⟨rfl, hf1⟩; rw [show (⟨x.key, x.row, x.gone⟩ : Wr) = x from rfl, hfx])
        go_ret
        exact ⟨by rw [hno.out]; rfl, (HFit.out.2.2.alloc _).trans (hf1.mono fun _ _ f => f.elim)⟩
      · go_wp2_with (go_at_call 74; refine (fits_ok _ _ _ _ _ _ hsz hrow).mono ?_; rintro e w1 ⟨rfl, hf1⟩; rw [show (⟨x.key, x.row, x.gone⟩ : Wr) = x from rfl, hfx]
                     have hb5 : w1.cell? ⟨wr.heap.size, 0, none⟩ = some (.string x.key) := hf1.cell (by simp) (fun f => f))
        go_roundw
        case rel => exact ⟨k + 1, by omega, by go_num, by rw [HFit.out.2.1], by show _ = _; rw [HFit.out.1]; exact hfx, (hf.out.alloc _).trans (hf1.mono fun _ _ f => f.elim)⟩
        case measure => simp [intOf]; omega
    · obtain rfl : k = ws.length := by omega
      rw [List.take_length] at ha
      have hr : Hid (right n ws = (decide (1 ≤ n) && decide (1 ≤ ws.length) && decide (ws.length ≤ 64))) := by
        show _ = _
        unfold right
        rw [ha.out, Bool.true_and]
      by_cases h1 : 1 ≤ n
      · by_cases h2 : 1 ≤ ws.length
        · go_wp2
          go_ret
          exact ⟨by rw [hr.out, decide_eq_true h1, decide_eq_true h2]; simp; omega, hwr⟩
        · go_wp2
          go_ret
          exact ⟨by rw [hr.out, decide_eq_true h1, decide_eq_false h2]; rfl, hwr⟩
      · go_wp2
        go_ret
        exact ⟨by rw [hr.out, decide_eq_false (show ¬ 1 ≤ n by omega)]; rfl, hwr⟩
end Go.Proofs.Ytkcppngopdiljaa
/- Layer 13 (store): how a store lies in memory. -/
set_option linter.unusedVariables false
set_option linter.unusedSimpArgs false
namespace Go.Proofs.Ytkcppngopdiljaa
open Go.RowKit

theorem slay_cons {β : Type} (k : ByteArray) (v : β) (p : ByteArray × β) (l : List (ByteArray × β)) : slay k v (p :: l) = if kl k p.1 then (k, v) :: p :: l else if k = p.1 then (k, v) :: l else p :: slay k v l := rfl
theorem slay_slay {β : Type} (k : ByteArray) (u v : β) (l : List (ByteArray × β)) : slay k v (slay k u l) = slay k v l := by
  induction l with
  | nil => simp [slay, kl_irrefl]
  | cons p l ih =>
    rw [slay_cons k u, slay_cons k v]
    by_cases h1 : kl k p.1 = true
    · rw [if_pos h1, if_pos h1, slay_cons]; simp [kl_irrefl]
    · rw [if_neg h1, if_neg h1]
      by_cases h2 : k = p.1
      · rw [if_pos h2, if_pos h2, slay_cons]; simp [kl_irrefl]
      · rw [if_neg h2, if_neg h2, slay_cons, if_neg h1, if_neg h2, ih]

/-- A map's pointers lead to chains, each apart from the others. -/
structure Held (w : World) (l : List (ByteArray × Value)) (kc : List (ByteArray × Chn)) (G : ByteArray → Nat → Prop) : Prop where
  rising : Rising (kc.map Prod.fst)
  keys : ∀ k, look k l = none ↔ look k kc = none
  at_ : ∀ k v c, look k l = some v → look k kc = some c → ∃ b, v = .pointer (some ⟨b, 0, none⟩) ∧ ChainAt w (G k) b c
  lt : ∀ k i, G k i → i < w.heap.size
  apart : ∀ k k' i, k ≠ k' → G k i → ¬ G k' i

section
variable {w w' : World} {l : List (ByteArray × Value)} {kc : List (ByteArray × Chn)} {G : ByteArray → Nat → Prop}
theorem Held.stab (h : Held w l kc G) (hs : w.heap.size ≤ w'.heap.size) (hk : ∀ k i, G k i → w'.heap[i]? = w.heap[i]?) : Held w' l kc G :=
  ⟨h.rising, h.keys, fun k v c h1 h2 => by
    obtain ⟨b, e, hc⟩ := h.at_ k v c h1 h2
    exact ⟨b, e, hc.stab fun i hi _ => hk k i hi⟩, fun k i hi => Nat.lt_of_lt_of_le (h.lt k i hi) hs, h.apart⟩
theorem Held.fr {S : Nat → Prop} (h : Held w l kc G) (f : Fr S w w') (hd : ∀ k i, G k i → ¬ S i) : Held w' l kc G := h.stab f.size fun k i hi => f.block i (h.lt k i hi) (hd k i hi)
theorem Held.fr0 (h : Held w l kc G) (f : Fr No w w') : Held w' l kc G := h.fr f fun _ _ _ f => f
/-- One chain is written. -/
theorem Held.turn (h : Held w l kc G) {k0 : ByteArray} {b : Nat} {c' : Chn} (hv : look k0 l = some (.pointer (some ⟨b, 0, none⟩))) (f : Fr (G k0) w w') (hc : ChainAt w' (fun i => G k0 i ∨ w.heap.size ≤ i) b c') :
    ∃ G', Held w' l (slay k0 c' kc) G' ∧ ∀ k i, G' k i → (∃ k', G k' i) ∨ w.heap.size ≤ i := by
  have hk0 : look k0 kc ≠ none := fun e => by rw [(h.keys k0).2 e] at hv; cases hv
  refine ⟨fun k i => if k = k0 then (G k0 i ∨ w.heap.size ≤ i) ∧ i < w'.heap.size else G k i, ⟨slay_rising h.rising, fun k => ?_, fun k v c h1 h2 => ?_, fun k i hi => ?_, fun k k' i hne hi => ?_⟩, fun k i hi => ?_⟩
  · rw [look_slay h.rising]
    split
    · rename_i e; subst e; rw [hv]; simp
    · exact h.keys k
  · rw [look_slay h.rising] at h2
    by_cases e : k = k0
    · subst e
      rw [if_pos rfl] at h2
      injection h2 with h2
      rw [hv] at h1
      injection h1 with h1
      subst h1; subst h2
      exact ⟨b, rfl, hc.mono fun i hi hl => by simp only [if_true]; exact ⟨hi, hl⟩⟩
    · rw [if_neg (fun e' => e e'.symm)] at h2
      obtain ⟨b', e', hc'⟩ := h.at_ k v c h1 h2
      refine ⟨b', e', ?_⟩
      simp only [if_neg e]
      exact hc'.fr f fun i hi hg => h.apart k k0 i e hi hg
  · split at hi
    · exact hi.2
    · exact Nat.lt_of_lt_of_le (h.lt k i hi) f.size
  · intro hi'
    split at hi <;> split at hi' <;> rename_i e1 e2
    · exact hne (e1.trans e2.symm)
    · rcases hi.1 with hg | hg
      · exact h.apart k0 k' i (fun e => e2 e.symm) hg hi'
      · have := h.lt k' i hi'; omega
    · rcases hi'.1 with hg | hg
      · exact h.apart k k0 i e1 hi hg
      · have := h.lt k i hi; omega
    · exact h.apart k k' i hne hi hi'
  · dsimp only at hi
    split at hi
    · rcases hi.1 with hg | hg
      · exact .inl ⟨k0, hg⟩
      · exact .inr hg
    · exact .inl ⟨k, hi⟩
/-- A key is new. -/
theorem Held.more (h : Held w l kc G) {k0 : ByteArray} {b : Nat} (hk : look k0 kc = none) (f : Fr No w w') (hc : ChainAt w' (fun i => w.heap.size ≤ i) b Chn.empty) :
    ∃ G', Held w' (lay k0 (.pointer (some ⟨b, 0, none⟩)) l) (slay k0 Chn.empty kc) G' ∧ ∀ k i, G' k i → (∃ k', G k' i) ∨ w.heap.size ≤ i := by
  refine ⟨fun k i => if k = k0 then w.heap.size ≤ i ∧ i < w'.heap.size else G k i, ⟨slay_rising h.rising, fun k => ?_, fun k v c h1 h2 => ?_, fun k i hi => ?_, fun k k' i hne hi => ?_⟩, fun k i hi => ?_⟩
  · rw [look_slay h.rising, look_lay]
    split
    · simp
    · exact h.keys k
  · rw [look_slay h.rising] at h2
    rw [look_lay] at h1
    by_cases e : k = k0
    · subst e
      rw [if_pos rfl] at h1 h2
      injection h2 with h2
      injection h1 with h1
      subst h1; subst h2
      exact ⟨b, rfl, hc.mono fun i hi hl => by simp only [if_true]; exact ⟨hi, hl⟩⟩
    · rw [if_neg (fun e' => e e'.symm)] at h1 h2
      obtain ⟨b', e', hc'⟩ := h.at_ k v c h1 h2
      refine ⟨b', e', ?_⟩
      simp only [if_neg e]
      exact hc'.fr0 f
  · split at hi
    · exact hi.2
    · exact Nat.lt_of_lt_of_le (h.lt k i hi) f.size
  · intro hi'
    split at hi <;> split at hi' <;> rename_i e1 e2
    · exact hne (e1.trans e2.symm)
    · have := h.lt k' i hi'; omega
    · have := h.lt k i hi; omega
    · exact h.apart k k' i hne hi hi'
  · dsimp only at hi
    split at hi
    · exact .inr hi.1
    · exact .inl ⟨k, hi⟩
end

/-- A store behind a pointer; F bounds all its blocks. -/
def StoreAt (w : World) (F : Nat → Prop) (sb : Nat) (s : Sto) : Prop :=
  F sb ∧ ∃ mb l G, F mb ∧ mb ≠ sb ∧ w.heap[sb]? = some (.cells #[.map (some mb), .int .i64 s.now] 91 (0, 0)) ∧ MapIs w mb l ∧ Held w l s.kc G ∧ ∀ k i, G k i → F i ∧ i ≠ sb ∧ i ≠ mb
theorem StoreAt.stab {w w' : World} {F : Nat → Prop} {sb : Nat} {s : Sto} (h : StoreAt w F sb s) (hs : w.heap.size ≤ w'.heap.size) (k : ∀ k, F k → k < w.heap.size → w'.heap[k]? = w.heap[k]?) : StoreAt w' F sb s := by
  obtain ⟨h1, mb, l, G, h2, h3, h4, h5, h6, h7⟩ := h
  exact ⟨h1, mb, l, G, h2, h3, (k _ h1 (blk_lt h4)).trans h4, h5.stab (k _ h2 h5.lt), h6.stab hs fun k' i hi => k i (h7 k' i hi).1 (h6.lt k' i hi), h7⟩
theorem StoreAt.fr {S : Nat → Prop} {w w' : World} {F : Nat → Prop} {sb : Nat} {s : Sto} (h : StoreAt w F sb s) (f : Fr S w w') (hd : ∀ k, F k → ¬ S k) : StoreAt w' F sb s := h.stab f.size fun k hk hl => f.block k hl (hd k hk)
theorem StoreAt.fr0 {w w' : World} {F : Nat → Prop} {sb : Nat} {s : Sto} (h : StoreAt w F sb s) (f : Fr No w w') : StoreAt w' F sb s := h.stab f.size fun k hk hl => f.block k hl (fun f => f)
theorem StoreAt.mono {w : World} {F F' : Nat → Prop} {sb : Nat} {s : Sto} (h : StoreAt w F sb s) (k : ∀ k, F k → k < w.heap.size → F' k) : StoreAt w F' sb s := by
  obtain ⟨h1, mb, l, G, h2, h3, h4, h5, h6, h7⟩ := h
  exact ⟨k _ h1 (blk_lt h4), mb, l, G, k _ h2 h5.lt, h3, h4, h5, h6, fun k' i hi => ⟨k i (h7 k' i hi).1 (h6.lt k' i hi), (h7 k' i hi).2⟩⟩
theorem StoreAt.rising {w : World} {F : Nat → Prop} {sb : Nat} {s : Sto} (h : StoreAt w F sb s) : Rising (s.kc.map Prod.fst) := by
  obtain ⟨h1, mb, l, G, h2, h3, h4, h5, h6, h7⟩ := h
  exact h6.rising

theorem store_new (w : World) : Calls Try.prog 19 #[] w fun e w' => ∃ b, e = .returned (.pointer (some ⟨b, 0, none⟩)) ∧ StoreAt w' (fun k => w.heap.size ≤ k) b Sto.empty ∧ Fr No w w' := by
  have hmm := @run_makeMap Try.prog
  go_enter Try.func19, Try.ntmps19
  go_wp2
  go_ret
  refine ⟨w.heap.size + 1, rfl, ⟨by omega, w.heap.size, [], fun _ _ => False, Nat.le_refl _, by omega, ?_, ?_, ⟨List.Pairwise.nil, fun k => ⟨fun _ => rfl, fun _ => rfl⟩, (fun k v c h => by cases h), (fun k i h => h.elim), (fun k k' i _ h => h.elim)⟩, (fun k i h => h.elim)⟩, ((Fr.refl No w).alloc _).alloc _⟩
  · have := heap_alloc_new (w.alloc (.map #[] 0)) (.cells #[.map (some w.heap.size), .int .i64 0] 91)
    rw [World.size_alloc] at this
    exact this
  · exact (MapIs.new w).stab (Below.heap_alloc _ _ _ (by simp))
end Go.Proofs.Ytkcppngopdiljaa
/- 'slices.Sorted(maps.Keys(m))' of a map keyed by texts: its keys, rising, in new memory. -/
set_option linter.unusedVariables false
set_option linter.unusedSimpArgs false
namespace Go.Proofs.Ytkcppngopdiljaa
open Go.RowKit Go.Maps Go.Sort Go.Shelf Go.WideElems Go.WideShapes

/-- Whatever a value is: the keys alone are asked. -/
def AnyElem : Value → Option (DataW Unit × List MemPlace) := fun _ => some (.lit (.bool false), [])
theorem MapIs.owns {P : Program} {w : World} {b : Nat} {l : List (ByteArray × Value)} {kt : TypeId} (h : MapIs w b l) (hk : P.underlying kt = some .string) (hs : ∀ p ∈ l, p.1.size ≤ maxLen) (hl : l.length ≤ maxLen) :
    ∃ D : DataW Unit, w.ownsMap P kt AnyElem b l.length D ∧ (strKeys D).Perm (l.map fun p => p.1.data.toList) ∧ Maps.size D = l.length := by
  obtain ⟨es, c, hb, he⟩ := h
  have hrd : ∀ (x : MapEntry) (s : ByteArray), x.key = .string s → s.size ≤ maxLen → WideElems.rd (H := Unit) P kt AnyElem x = some (.string s.data.toList, .lit (.bool false)) := fun x s hx hsz => by
    unfold WideElems.rd
    simp [keyOf, hk, mapKey, hx, hsz, AnyElem]
  have hkey : ∀ x ∈ es.toList, ∃ p ∈ l, x.key = .string p.1 := fun x hx => by
    obtain ⟨j, hj⟩ := List.getElem?_of_mem hx
    obtain ⟨p, hp, h1, _⟩ := he.at hj
    exact ⟨p, List.mem_of_getElem? hp, h1⟩
  have hrg : es.toList.map (rg (H := Unit) P kt AnyElem) = l.map fun p => (Lit.string p.1.data.toList, DataW.lit (.bool false)) := by
    apply List.ext_getElem?
    intro j
    simp only [List.getElem?_map]
    cases hj : es.toList[j]? with
    | none =>
      have : l[j]? = none := by
        rw [List.getElem?_eq_none_iff] at hj ⊢
        have := he.size
        simp at hj; omega
      rw [this]; rfl
    | some x =>
      obtain ⟨p, hp, h1, _⟩ := he.at hj
      rw [hp]
      simp only [Option.map_some, Option.some.injEq]
      unfold rg
      rw [hrd x p.1 h1 (hs p (List.mem_of_getElem? hp))]
      rfl
  refine ⟨_, ⟨es, c, hb, ⟨by rw [he.size]; exact hl, he.st, fun x hx => ?_⟩, by rw [he.size]; exact Nat.le_refl _, rfl⟩, ?_, ?_⟩
  · obtain ⟨p, hp, h1⟩ := hkey x hx
    exact ⟨_, hrd x p.1 h1 (hs p hp)⟩
  · show ((List.foldr DataW.insert [] _).map fun p => strOf p.1).Perm _
    rw [hrg]
    have h1 := (sorted_perm (H := Unit) (l.map fun p => (Lit.string p.1.data.toList, DataW.lit (.bool false)))).map fun p => strOf p.1
    simpa [List.map_map, Function.comp_def, strOf] using h1
  · show (List.foldr DataW.insert [] _).length = _
    rw [hrg, (sorted_perm _).length_eq, List.length_map]

theorem rising_sorted {ks : List ByteArray} (h : Rising ks) {ss : List (List UInt8)} (hp : ss.Perm (ks.map fun k => k.data.toList)) : (ss.mergeSort (fun x y => decide (x ≤ y))).map encStr = ks.map Value.string := by
  have h1 : ss.mergeSort leB = (ks.map fun k => k.data.toList).mergeSort leB := mergeSort_of_perm hp
  have h2 : (ks.map fun k => k.data.toList).mergeSort leB = ks.map fun k => k.data.toList := by
    refine List.mergeSort_of_pairwise (List.pairwise_map.2 (List.Pairwise.imp (fun {a b} hab => ?_) h))
    rw [kl_eq, toList_data, toList_data] at hab
    exact decide_eq_true (List.le_of_lt (of_decide_eq_true hab))
  show (ss.mergeSort leB).map encStr = _
  rw [h1, h2, List.map_map]
  apply List.map_congr_left
  intro k _
  simp [encStr, Function.comp]

theorem keys_perm {ks : List ByteArray} {l : List (ByteArray × Value)} (hr : Rising ks) (hn : (l.map Prod.fst).Nodup) (h : ∀ k, look k l = none ↔ k ∉ ks) : (l.map fun p => p.1.data.toList).Perm (ks.map fun k => k.data.toList) := by
  have : (l.map Prod.fst).Perm ks := (List.perm_ext_iff_of_nodup hn hr.nodup).2 fun k => by
    have := h k
    rw [look_none_iff] at this
    exact ⟨fun h => Classical.byContradiction fun hn => this.2 hn h, fun h => Classical.byContradiction fun hn => this.1 hn h⟩
  simpa [List.map_map, Function.comp_def] using this.map fun k : ByteArray => k.data.toList

set_option maxHeartbeats 1000000 in
/-- maps.Keys, and slices.Sorted of what it handed back. -/
theorem keys_ok (b : Nat) (l : List (ByteArray × Value)) (ks : List ByteArray) (w : World) (h : MapIs w b l) (hr : Rising ks) (hks : ∀ k, look k l = none ↔ k ∉ ks) (hs : ∀ k ∈ ks, k.size ≤ maxLen) (hl : ks.length ≤ 1000000000) :
    (Calls Try.prog 75 #[.map (some b)] w fun e w' => e = .returned (.func (.func 99) #[] #[.pointer (some ⟨w.heap.size, 0, none⟩)]) ∧ w' = w.alloc (.cells #[.map (some b)] 89)) ∧
    Calls Try.prog 32 #[.func (.func 99) #[] #[.pointer (some ⟨w.heap.size, 0, none⟩)]] (w.alloc (.cells #[.map (some b)] 89)) fun e w' =>
      ∃ A c, e = .returned (.slice A ks.length c) ∧ Ow Ty.str 9 w' (fun i => w.heap.size ≤ i) (.slice A ks.length c) ks ∧ Fr No w w' := by
  have hp := keys_perm hr h.nodup hks
  have hlen : l.length = ks.length := by simpa using hp.length_eq
  have hsl : ∀ p ∈ l, p.1.size ≤ maxLen := fun p hp' => by
    refine hs p.1 ?_
    rcases Classical.em (p.1 ∈ ks) with hm | hm
    · exact hm
    · exact absurd (List.mem_map.2 ⟨p, hp', rfl⟩) (look_none_iff.1 ((hks p.1).2 hm))
  obtain ⟨D0, hown, hperm, hsz⟩ := h.owns (P := Try.prog) Try.underlying9 hsl (by unfold maxLen; omega)
  have hbl := hown.lt
  have hmax : Maps.size D0 ≤ maxLen := by rw [hsz]; unfold maxLen; omega
  refine ⟨callsIn_wide.1 (AnyZ.keys_in Try.keys75 Fence.wide 5 trivial rfl (some b) w), ?_⟩
  have hseq : SeqGives Fence.wide 2 Try.prog 99 #[.pointer (some ⟨w.heap.size, 0, none⟩)] encStr (fun ss => ss.Perm (strKeys D0)) (Maps.size D0) (w.alloc (.cells #[.map (some b)] 89)) :=
    AnyZ.keys_gives (ρ := Try.keys75_ren) { Try.keys75 with } Fence.wide _ trivial rfl (by omega) w.heap.size b l.length D0 _ (by simp) (by simp) (by
      obtain ⟨es, clock, hb, Ft, hs, hD⟩ := hown
      exact ⟨es, clock, (Below.heap_alloc _ _ b hbl).trans hb, Ft, hs, hD⟩)
  have hsorts : ∀ m, AnyZ.SortsIn Try.prog Try.sorted32_ren Fence.wide m := fun m =>
    ⟨fun blk off cap ss W hH hblk hsz => callsIn_wide.2 (AnyM.slices_Sort_string Try.sort53 blk off cap ss W hH hblk hsz), fun p cap W => callsIn_wide.2 (AnyM.slices_Sort_string_none Try.sort53 p cap W)⟩
  have hc := callsIn_wide.1 (AnyZ.sorted_in Try.sorted32 Fence.wide 5 trivial trivial trivial trivial rfl (by omega) (hsorts _) (enters_of Try.func53 (by kernel_rfl) rfl)
    99 #[.pointer (some ⟨w.heap.size, 0, none⟩)] trivial (enters_of Try.func99 (by kernel_rfl) rfl) _ _ hmax (by rw [hsz]; omega) _ hseq)
  refine hc.mono ?_
  rintro e w' ⟨v, ss, rfl, hS, hrow, hnil, hb⟩
  have hS2 : ss.Perm (ks.map fun k => k.data.toList) := (hS.trans hperm).trans hp
  rw [rising_sorted hr hS2] at hrow
  have hsl2 : ss.length = ks.length := by simpa using hS2.length_eq
  rw [hsl2] at hrow
  have hO : Ow Ty.str 9 w' (fun i => w.heap.size ≤ i) v ks := by
    refine ⟨ks.map Value.string, ⟨hrow.1, hrow.2.imp id ?_⟩, ?_, fun k hk => by have := (hrow.lt k hk).1; simp at this; omega⟩
    · rintro ⟨g, cap, cur, h1, h2, h3⟩; exact ⟨g, cap, cur, h1, Nat.zero_le _, h3⟩
    · clear hrow hnil hS2 hp hlen hks hr hs hl hsl2
      induction ks with
      | nil => rfl
      | cons k ks ih => exact ⟨[.string k], ks.map Value.string, rfl, rfl, ih⟩
  obtain ⟨A, c, rfl, _, _⟩ := hO.slice
  exact ⟨A, c, rfl, hO, ((Fr.refl No w).alloc _).trans ((Fr.below hb).mono fun _ _ f => f.elim)⟩
end Go.Proofs.Ytkcppngopdiljaa
/- Layer 13 (store): the functions that only read. -/
set_option linter.unusedVariables false
set_option linter.unusedSimpArgs false
namespace Go.Proofs.Ytkcppngopdiljaa
open Go.RowKit

theorem zero_chain (w : World) : (zeroValue 111).run Try.prog w = .ok (.pointer none) w := by kernel_rfl
/-- A key's chain, or nil. -/
def ChainOf (w : World) (F : Nat → Prop) (s : Sto) (k : ByteArray) (v : Value) : Prop :=
  (look k s.kc = none ∧ v = .pointer none) ∨ ∃ c b G, look k s.kc = some c ∧ v = .pointer (some ⟨b, 0, none⟩) ∧ ChainAt w G b c ∧ ∀ i, G i → F i
theorem store_of_nil (k : ByteArray) (w : World) : Calls Try.prog 55 #[.pointer none, .string k] w fun e w' => e = .returned (.pointer none) ∧ w' = w := by
  go_enter Try.func55, Try.ntmps55
  go_wp2
  go_ret
  exact ⟨rfl, rfl⟩
theorem store_of {w : World} {F : Nat → Prop} {sb : Nat} {s : Sto} (h : StoreAt w F sb s) (k : ByteArray) :
    Calls Try.prog 55 #[.pointer (some ⟨sb, 0, none⟩), .string k] w fun e w' => ∃ v, e = .returned v ∧ ChainOf w F s k v ∧ w' = w := by
  obtain ⟨h1, mb, l, G, h2, h3, h4, h5, h6, h7⟩ := h
  have c0 := blk_cell h4 0
  have hrun := (run_map_look (P := Try.prog) h5 89 _ _ Try.underlying89 Try.underlying9 _ (zero_chain w) k).1
  have hv : ChainOf w F s k ((look k l).getD (.pointer none)) := by
    cases hl : look k l with
    | none => exact .inl ⟨(h6.keys k).1 hl, rfl⟩
    | some v =>
      cases hc : look k s.kc with
      | none => rw [(h6.keys k).2 hc] at hl; cases hl
      | some c =>
        obtain ⟨b, rfl, hb⟩ := h6.at_ k v c hl hc
        exact .inr ⟨c, b, G k, hc, rfl, hb, fun i hi => (h7 k i hi).1⟩
  have HV := Lib.hid hv
  clear h1 h2 h3 h4 h5 h6 h7 hv
  simp at c0
  generalize (look k l).getD (.pointer none) = v at *
  go_enter Try.func55, Try.ntmps55
  go_wp2
  go_ret
  exact ⟨v, rfl, HV.out, rfl⟩

theorem get_empty (a : Int) : Chn.empty.get a = none := rfl
theorem sto_get_none {s : Sto} {k : ByteArray} (h : look k s.kc = none) (a : Int) : s.get a k = none := by unfold Sto.get Sto.of; rw [h]; rfl
theorem sto_get_some {s : Sto} {k : ByteArray} {c : Chn} (h : look k s.kc = some c) (a : Int) : s.get a k = c.get a := by unfold Sto.get Sto.of; rw [h]; rfl
theorem sto_last_none {s : Sto} {k : ByteArray} (h : look k s.kc = none) : s.last k = 0 := by unfold Sto.last Sto.of; rw [h]; rfl
theorem sto_last_some {s : Sto} {k : ByteArray} {c : Chn} (h : look k s.kc = some c) : s.last k = c.last := by unfold Sto.last Sto.of; rw [h]; rfl

theorem store_get_nil (a : Int) (k : ByteArray) (w : World) : Calls Try.prog 36 #[.pointer none, .int .i64 a, .string k] w fun e w' => RowOk w w' e none ∧ Fr No w w' := by
  go_enter Try.func36, Try.ntmps36
  go_wp2_with (first
    | (go_at_call 55; refine (store_of_nil _ _).mono ?_; rintro e w' ⟨rfl, rfl⟩)
    | (go_at_call 56; refine (chain_get_nil _ _).mono ?_; rintro e w' ⟨⟨A1, c1, rfl, ho⟩, hf⟩))
  go_ret2
  exact ⟨⟨A1, c1, rfl, ho⟩, hf⟩
theorem chain_get_of {w : World} {F : Nat → Prop} {s : Sto} {m : Nat} {k : ByteArray} {v : Value} (hv : ChainOf w F s k v) (hs : s.Small m) (hm : m ≤ 100000000) (a : Int) :
    Calls Try.prog 56 #[v, .int .i64 a] w fun e w' => RowOk w w' e (s.get a k) ∧ Fr No w w' := by
  rcases hv with ⟨hn, rfl⟩ | ⟨c, b, G, hc, rfl, hb, _⟩
  · rw [sto_get_none hn]; exact chain_get_nil a w
  · rw [sto_get_some hc]
    have h3 : c.l.length ≤ m ∧ c.last ≤ s.now ∧ ∀ v ∈ c.l, v.row.length ≤ 4000 := hs.chains (k, c) (look_mem hc)
    exact chain_get hb (by have := h3.1; omega) (fun v hv => by have := h3.2.2 v hv; omega)
theorem store_get {w : World} {F : Nat → Prop} {sb : Nat} {s : Sto} {m : Nat} (h : StoreAt w F sb s) (hs : s.Small m) (hm : m ≤ 100000000) (a : Int) (k : ByteArray) :
    Calls Try.prog 36 #[.pointer (some ⟨sb, 0, none⟩), .int .i64 a, .string k] w fun e w' => RowOk w w' e (s.get a k) ∧ Fr No w w' := by
  have hof := Lib.hid (store_of h k)
  have HS := Lib.hid (And.intro hs hm)
  clear hs hm
  go_enter Try.func36, Try.ntmps36
  go_wp2_with (first
    | (go_at_call 55; refine hof.out.mono ?_; rintro e w' ⟨v, rfl, hv, rfl⟩; have HV := Lib.hid hv; clear hv)
    | (go_at_call 56; refine (chain_get_of HV.out HS.out.1 HS.out.2 _).mono ?_; rintro e w' ⟨⟨A1, c1, rfl, ho⟩, hf⟩))
  go_ret2
  exact ⟨⟨A1, c1, rfl, ho⟩, hf⟩
theorem store_last_nil (k : ByteArray) (w : World) : Calls Try.prog 42 #[.pointer none, .string k] w fun e w' => e = .returned (.int .i64 0) ∧ w' = w := by
  go_enter Try.func42, Try.ntmps42
  go_wp2_with (first
    | (go_at_call 55; refine (store_of_nil _ _).mono ?_; rintro e w' ⟨rfl, rfl⟩)
    | (go_at_call 64; refine (chain_last_nil _).mono ?_; rintro e w' ⟨rfl, rfl⟩))
  go_ret
  exact ⟨rfl, rfl⟩
theorem chain_last_of {w : World} {F : Nat → Prop} {s : Sto} {k : ByteArray} {v : Value} (hv : ChainOf w F s k v) :
    Calls Try.prog 64 #[v] w fun e w' => e = .returned (.int .i64 (s.last k)) ∧ w' = w := by
  rcases hv with ⟨hn, rfl⟩ | ⟨c, b, G, hc, rfl, hb, _⟩
  · rw [sto_last_none hn]; exact chain_last_nil w
  · rw [sto_last_some hc]; exact chain_last hb
theorem store_last {w : World} {F : Nat → Prop} {sb : Nat} {s : Sto} (h : StoreAt w F sb s) (k : ByteArray) :
    Calls Try.prog 42 #[.pointer (some ⟨sb, 0, none⟩), .string k] w fun e w' => e = .returned (.int .i64 (s.last k)) ∧ w' = w := by
  have hof := Lib.hid (store_of h k)
  go_enter Try.func42, Try.ntmps42
  go_wp2_with (first
    | (go_at_call 55; refine hof.out.mono ?_; rintro e w' ⟨v, rfl, hv, rfl⟩; have HV := Lib.hid hv; clear hv)
    | (go_at_call 64; refine (chain_last_of HV.out).mono ?_; rintro e w' ⟨rfl, rfl⟩))
  go_ret
  exact ⟨rfl, rfl⟩

theorem store_keys_nil (w : World) : Calls Try.prog 66 #[.pointer none] w fun e w' => e = .returned (.slice none 0 0) ∧ w' = w := by
  go_enter Try.func66, Try.ntmps66
  go_wp2
  go_ret
  exact ⟨rfl, rfl⟩
theorem store_keys {w : World} {F : Nat → Prop} {sb : Nat} {s : Sto} {m : Nat} (h : StoreAt w F sb s) (hs : s.Small m) (hm : m ≤ 100000000) :
    Calls Try.prog 66 #[.pointer (some ⟨sb, 0, none⟩)] w fun e w' => ∃ A c, e = .returned (.slice A s.kc.length c) ∧ Rd Ty.str w' (fun i => w.heap.size ≤ i) A (s.kc.map Prod.fst) ∧ s.kc.length ≤ c ∧ Fr No w w' := by
  obtain ⟨h1, mb, l, G, h2, h3, h4, h5, h6, h7⟩ := h
  have c0 := blk_cell h4 0
  have hc := keys_ok mb l (s.kc.map Prod.fst) w h5 h6.rising (fun k => by rw [h6.keys, look_none_iff]) (fun k hk' => by
    obtain ⟨p, hp, rfl⟩ := List.mem_map.1 hk'
    have := hs.ksz p hp
    unfold maxLen; omega) (by rw [List.length_map]; have := hs.keys; omega)
  have HC := Lib.hid hc
  clear h1 h2 h3 h4 h5 h6 h7 hc hs hm
  simp at c0
  go_enter Try.func66, Try.ntmps66
  go_wp2_with (first
    | (go_at_call 75; refine HC.out.1.mono ?_; rintro e w' ⟨rfl, rfl⟩)
    | (go_at_call 32; refine HC.out.2.mono ?_; rintro e w' ⟨A, c, rfl, ho, hf⟩))
  go_ret
  have hr := ho.rd
  rw [List.length_map] at hr
  exact ⟨A, c, rfl, hr.2.2, hr.2.1, hf⟩
end Go.Proofs.Ytkcppngopdiljaa
/- Layer 13 (store): Scan. -/
set_option linter.unusedVariables false
set_option linter.unusedSimpArgs false
namespace Go.Proofs.Ytkcppngopdiljaa
open Go.RowKit

theorem info_item : (Try.prog.info? 65).map (fun i => (i.zero, i.size, i.bytes)) = some (some (.agg #[.string ⟨#[]⟩, .slice none 0 0]), 2, 40) := by kernel_rfl
theorem str_at {w : World} {F : Nat → Prop} {A : Option Addr} {ks : List ByteArray} (h : Rd Ty.str w F A ks) {i : Nat} (hi : i < ks.length) : ∃ ad, A = some ad ∧ w.cell? (ad.add i) = some (.string ks[i]) := by
  obtain ⟨ad, c, e, hk, e0, _⟩ := h.get' hi (by decide)
  obtain rfl : c = _ := hk
  have := e0 _ rfl
  rw [show Ty.str.sz = 1 from rfl, Nat.mul_one] at this
  exact ⟨ad, e, this⟩

theorem size_isEmpty (b : ByteArray) : b.toList.isEmpty = decide (b.size = 0) := by
  have h : b.size = b.toList.length := by rw [toList_data, Array.length_toList]; rfl
  rw [h]
  cases b.toList <;> simp

/-- What the loop holds at a round's head: k keys were seen. -/
structure ScanInv (w w1 : World) (s : Sto) (a : Int) (lo hi : ByteArray) (most : Int) (k n : Nat) (v : Value) (wr : World) : Prop where
  le : k ≤ s.kc.length
  len : n = ((s.kc.take k).filterMap (Sto.sel a lo hi)).length
  own : Ow tItem 65 wr (fun i => w1.heap.size ≤ i) v ((s.kc.take k).filterMap (Sto.sel a lo hi))
  most : (((s.kc.take k).filterMap (Sto.sel a lo hi)).length : Int) ≤ max most 0
  fr : Fr No w1 wr

theorem ScanInv.skip {w w1 : World} {s : Sto} {a : Int} {lo hi : ByteArray} {most : Int} {k n : Nat} {v : Value} {wr wr' : World} (I : ScanInv w w1 s a lo hi most k n v wr) {q : ByteArray × Chn} (hk : k < s.kc.length)
    (hs : (s.kc.take (k + 1)).filterMap (Sto.sel a lo hi) = (s.kc.take k).filterMap (Sto.sel a lo hi) ++ (Sto.sel a lo hi q).toList) (hn : Sto.sel a lo hi q = none) (f : Fr No wr wr') : ScanInv w w1 s a lo hi most (k + 1) n v wr' := by
  rw [hn] at hs
  have e : (s.kc.take (k + 1)).filterMap (Sto.sel a lo hi) = (s.kc.take k).filterMap (Sto.sel a lo hi) := by simpa using hs
  exact ⟨hk, by rw [e]; exact I.len, by rw [e]; exact I.own.fr0 f, by rw [e]; exact I.most, I.fr.trans (f.mono fun _ _ f => f.elim)⟩

theorem ScanInv.add {w w1 : World} {s : Sto} {a : Int} {lo hi : ByteArray} {most : Int} {k n : Nat} {v : Value} {wr w' : World} (I : ScanInv w w1 s a lo hi most k n v wr) {q : ByteArray × Chn} {x : Item} {A : Option Addr} {c : Nat} (hk : k < s.kc.length)
    (hs : (s.kc.take (k + 1)).filterMap (Sto.sel a lo hi) = (s.kc.take k).filterMap (Sto.sel a lo hi) ++ (Sto.sel a lo hi q).toList) (hn : Sto.sel a lo hi q = some x) (hm : (n : Int) < most) (hf : Fr No w1 w')
    (ho : Ow tItem 65 w' (fun i => w1.heap.size ≤ i) (.slice A (n + 1) c) ((s.kc.take k).filterMap (Sto.sel a lo hi) ++ [x])) : ScanInv w w1 s a lo hi most (k + 1) (n + 1) (.slice A (n + 1) c) w' := by
  rw [hn] at hs
  have e : (s.kc.take (k + 1)).filterMap (Sto.sel a lo hi) = (s.kc.take k).filterMap (Sto.sel a lo hi) ++ [x] := hs
  have hl := I.len
  exact ⟨hk, by rw [e]; simp; omega, by rw [e]; exact ho, by rw [e]; simp; omega, hf⟩

set_option maxHeartbeats 2000000 in
theorem store_scan {w : World} {F : Nat → Prop} {sb : Nat} {s : Sto} {m : Nat} (h : StoreAt w F sb s) (hs : s.Small m) (hm : m ≤ 100000000) (a : Int) (lo hi : ByteArray) (most : Int) :
    Calls Try.prog 45 #[.pointer (some ⟨sb, 0, none⟩), .int .i64 a, .string lo, .string hi, .int .i64 most] w fun e w' =>
      ∃ A c, e = .returned (.slice A (s.scan a lo hi most).length c) ∧ Ow tItem 65 w' (fun i => w.heap.size ≤ i) (.slice A (s.scan a lo hi most).length c) (s.scan a lo hi most) ∧ Fr No w w' := by
  have hk := store_keys h hs hm
  have hkl : (s.kc.length : Int) ≤ 100000000 := by have := hs.keys; omega
  have HH := Lib.hid (And.intro hk (And.intro h (And.intro hs hm)))
  clear hk h hs hm
  have fin : ∀ (w1 wr : World) (k n : Nat) (A2 : Option Addr) (c2 : Nat), Fr No w w1 → ScanInv w w1 s a lo hi most k n (.slice A2 n c2) wr → s.scan a lo hi most = (s.kc.take k).filterMap (Sto.sel a lo hi) →
      ∃ A c, Ending.returned (.slice A2 n c2) = .returned (.slice A (s.scan a lo hi most).length c) ∧ Ow tItem 65 wr (fun i => w.heap.size ≤ i) (.slice A (s.scan a lo hi most).length c) (s.scan a lo hi most) ∧ Fr No w wr := by
    intro w1 wr k n A2 c2 hf I e
    have := I.own
    rw [e]
    obtain rfl := I.len
    exact ⟨A2, c2, rfl, this.mono (fun i hi _ => by have := hf.size; omega), hf.trans (I.fr.mono fun _ _ f => f.elim)⟩
  have FIN := Lib.hid fin
  clear fin
  go_enter Try.func45, Try.ntmps45
  go_wp2_with (go_at_call 66; refine HH.out.1.mono ?_; rintro e w1 ⟨A, c, rfl, hr, hc, hf1⟩; have HR := Lib.hid (And.intro hr hf1); clear hr hf1)
  go_loopw [11, 19] (fun v i wr => ∃ (k n : Nat) (A2 : Option Addr) (c2 : Nat), v = .slice A2 n c2 ∧ i = .int .i64 k ∧ Hid (ScanInv w w1 s a lo hi most k n (.slice A2 n c2) wr)) (fun _ i _ => s.kc.length - (intOf i).toNat)
  case atStart => exact ⟨0, 0, none, 0, rfl, rfl, ⟨Nat.zero_le _, rfl, Ow.nil, by simp; omega, Fr.refl _ _⟩⟩
  case round =>
    obtain ⟨k, n, A2, c2, rfl, rfl, I⟩ := hrel
    by_cases hlt : k < s.kc.length
    · obtain ⟨ad, rfl, x0⟩ := str_at (HR.out.1.fr0 I.out.fr) (i := k) (by simpa using hlt)
      have hwr : Fr No w wr := HR.out.2.trans (I.out.fr.mono fun _ _ f => f.elim)
      have hget := store_get (HH.out.2.1.fr0 hwr) HH.out.2.2.1 HH.out.2.2.2 a s.kc[k].1
      have hlook : s.get a s.kc[k].1 = s.kc[k].2.get a := sto_get_some (look_of_mem HH.out.2.1.rising.nodup (List.getElem_mem hlt)) a
      rw [hlook] at hget
      have hsel := Sto.sel_step (a := a) (lo := lo) (hi := hi) hlt
      have hstop2 := Sto.scan_stop2 (a := a) (lo := lo) (hi := hi) (most := most) HH.out.2.1.rising hlt
      rw [List.getElem_map] at x0
      obtain ⟨q, hq⟩ : ∃ q, s.kc[k] = q := ⟨_, rfl⟩
      rw [hq] at x0 hget hsel hstop2
      have HG := Lib.hid (And.intro hget (And.intro hsel (And.intro hstop2 hwr)))
      clear hget hsel hstop2 hlook hq hwr
      have hk0 : (0 : Int) ≤ (k : Int) := Int.natCast_nonneg _
      have hk1 : (k : Int) < (s.kc.length : Int) := by omega
      by_cases h1 : most ≤ (n : Int)
      · go_wp2
        go_ret
        exact FIN.out w1 wr k n A2 c2 HR.out.2 I.out (Sto.scan_stop1 (by rw [← I.out.len]; exact h1) I.out.most)
      · cases h2 : hi.toList.isEmpty <;> cases h3 : Op.bytesLess q.1.toList hi.toList
        case false.false =>
          go_wp2
          go_ret
          exact FIN.out w1 wr k n A2 c2 HR.out.2 I.out (HG.out.2.2.1 (by rw [size_isEmpty] at h2; simpa using h2) h3 I.out.most)
        all_goals
          have hpass : Hid (hi.size = 0 ∨ kl q.1 hi = true) := by first | exact .inr h3 | exact .inl (by rw [size_isEmpty] at h2; simpa using h2)
          cases hr : q.2.get a with
          | none =>
            have hsel : Sto.sel a lo hi q = none := by unfold Sto.sel; rw [hr]
            have HS := Lib.hid hsel
            clear hsel
            rw [hr] at HG
            clear hr
            go_wp2_with (go_at_call 36; refine HG.out.1.mono ?_; rintro e w2 ⟨⟨A1, c1, rfl, ho1⟩, hf2⟩; have HO1 := Lib.hid ho1; clear ho1)
            go_roundw
            case rel => exact ⟨k + 1, n, A2, c2, rfl, by go_num, I.out.skip hlt HG.out.2.1 HS.out hf2⟩
            case measure => simp [intOf]; omega
          | some row =>
            rw [hr] at HG
            cases h4 : Op.bytesLess q.1.toList lo.toList
            · have hsel : Sto.sel a lo hi q = some (q.1, row) := by unfold Sto.sel; rw [hr]; exact if_pos ⟨h4, hpass.out⟩
              have HS := Lib.hid hsel
              clear hsel hr
              go_wp2_with (first
                | (go_at_call 36; refine HG.out.1.mono ?_; rintro e w2 ⟨⟨A1, c1, rfl, ho1⟩, hf2⟩; have HO1 := Lib.hid ho1; clear ho1)
                | (at_builtin; refine ow_append tItem (ys := [(q.1, row)]) ((I.out.own.fr0 hf2).fr0 ((Fr.refl No w2).alloc _)) _ _ _ 40 rfl rfl Try.underlying62 info_item rfl (by decide) (by decide) rfl rfl rfl
                    (Row.single (tItem_mk (A := A1) (c := c1) HO1.out.rd.2.1 ((HO1.out.rd.2.2.fr0 ((Fr.refl No w2).alloc _)).mono fun i hi hl => ?qf))) (At.block (heap_alloc_new _ _)) ?ql ?_
                   case qf => exact ⟨by have := I.out.fr.size; have hi' : wr.heap.size ≤ i := hi; omega, fun he => by have := (I.out.own.own he).2; have hi' : wr.heap.size ≤ i := hi; omega⟩
                   case ql => have := I.out.len; have := List.length_filterMap_le (Sto.sel a lo hi) (s.kc.take k); have := List.length_take_le k s.kc; simp; omega
                   intro A3 c3 w3 hown3 hg3 hat3
                   have hw3 : Fr No w1 w3 := (((I.out.fr.trans (hf2.mono fun _ _ f => f.elim)).alloc _).grown hg3 fun i hi => .inr (I.out.own.own hi).1)
                   have hown4 : Ow tItem 65 w3 (fun i => w1.heap.size ≤ i) (.slice A3 (n + 1) c3) ((s.kc.take k).filterMap (Sto.sel a lo hi) ++ [(q.1, row)]) := by
                     have h5 := hown3
                     rw [← I.out.len] at h5
                     exact h5.mono fun i hi _ => by have := I.out.fr.size; have := hf2.size; simp at hi; omega
                   have hlen3 : ((s.kc.take k).filterMap (Sto.sel a lo hi)).length + [(q.1, row)].length = n + 1 := by rw [← I.out.len]; rfl
                   rw [hlen3]
                   have H3 := Lib.hid (And.intro hw3 hown4)
                   clear hw3 hown4 hown3 hg3 hat3 hlen3))
              go_roundw
              case rel => exact ⟨k + 1, n + 1, A3, c3, rfl, by go_num, I.out.add hlt HG.out.2.1 HS.out (by omega) H3.out.1 H3.out.2⟩
              case measure => simp [intOf]; omega
            · have hsel : Sto.sel a lo hi q = none := by unfold Sto.sel; rw [hr]; exact if_neg (by show ¬ (kl q.1 lo = false ∧ _); rw [show kl q.1 lo = true from h4]; simp)
              have HS := Lib.hid hsel
              clear hsel hr
              go_wp2_with (go_at_call 36; refine HG.out.1.mono ?_; rintro e w2 ⟨⟨A1, c1, rfl, ho1⟩, hf2⟩; have HO1 := Lib.hid ho1; clear ho1)
              go_roundw
              case rel => exact ⟨k + 1, n, A2, c2, rfl, by go_num, I.out.skip hlt HG.out.2.1 HS.out hf2⟩
              case measure => simp [intOf]; omega
    · obtain rfl : k = s.kc.length := by have := I.out.le; omega
      go_wp2
      go_ret
      have e := I.out.most
      rw [List.take_length] at e
      exact FIN.out w1 wr _ n A2 c2 HR.out.2 I.out (by rw [List.take_length]; exact Sto.scan_end e)
end Go.Proofs.Ytkcppngopdiljaa
/- Layer 13 (store): Len and Trim. -/
set_option linter.unusedVariables false
set_option linter.unusedSimpArgs false
namespace Go.Proofs.Ytkcppngopdiljaa
open Go.RowKit

theorem sum_le (l : List Nat) (c : Nat) (h : ∀ x ∈ l, x ≤ c) : l.sum ≤ l.length * c := by
  induction l with
  | nil => simp
  | cons x l ih =>
    have h1 := h x (List.mem_cons_self ..)
    have h2 := ih fun y hy => h y (List.mem_cons_of_mem _ hy)
    rw [List.sum_cons, List.length_cons, Nat.add_mul]
    omega
theorem sum_take {l : List Nat} {k : Nat} (hk : k < l.length) : (l.take (k + 1)).sum = (l.take k).sum + l[k] := by
  rw [List.take_succ_eq_append_getElem hk, List.sum_append]; simp
theorem sum_take_le (l : List Nat) (k : Nat) : (l.take k).sum ≤ l.sum := by
  conv => rhs; rw [← List.take_append_drop k l, List.sum_append]
  omega

end Go.Proofs.Ytkcppngopdiljaa
/- Layer 13 (store): Trim. -/
set_option linter.unusedVariables false
set_option linter.unusedSimpArgs false
namespace Go.Proofs.Ytkcppngopdiljaa
open Go.RowKit

theorem slay_at {β : Type} {l : List (ByteArray × β)} (h : Rising (l.map Prod.fst)) {j : Nat} {k : ByteArray} {v0 v : β} (hj : l[j]? = some (k, v0)) : slay k v l = l.set j (k, v) := by
  induction l generalizing j with
  | nil => simp at hj
  | cons p l ih =>
    obtain ⟨h1, h2⟩ := List.pairwise_cons.1 h
    rw [slay_cons]
    cases j with
    | zero =>
      obtain rfl : p = (k, v0) := by simpa using hj
      rw [if_neg (by simp [kl_irrefl]), if_pos rfl]
      rfl
    | succ j =>
      have hj' : l[j]? = some (k, v0) := by simpa using hj
      have hk := h1 k (List.mem_map.2 ⟨_, List.mem_of_getElem? hj', rfl⟩)
      rw [if_neg (by rw [kl_asymm hk]; simp), if_neg (fun e => kl_ne hk e.symm), ih h2 hj']
      rfl

namespace Sto
/-- k chains are trimmed. -/
def trimK (s : Sto) (a : Int) (k : Nat) : List (ByteArray × Chn) := (s.kc.take k).map (fun p => (p.1, p.2.trim a)) ++ s.kc.drop k
theorem trimK_zero (s : Sto) (a : Int) : s.trimK a 0 = s.kc := by simp [trimK]
theorem trimK_all (s : Sto) (a : Int) : s.trimK a s.kc.length = (s.trim a).kc := by simp [trimK, trim]
theorem trimK_keys (s : Sto) (a : Int) (k : Nat) : (s.trimK a k).map Prod.fst = s.kc.map Prod.fst := by
  unfold trimK
  rw [List.map_append, List.map_map]
  have : (Prod.fst ∘ fun p : ByteArray × Chn => (p.1, p.2.trim a)) = Prod.fst := rfl
  rw [this, ← List.map_append, List.take_append_drop]
theorem trimK_at {s : Sto} {a : Int} {k : Nat} (hk : k < s.kc.length) : (s.trimK a k)[k]? = some s.kc[k] := by
  unfold trimK
  rw [List.getElem?_append_right (by simp; omega)]
  simp [Nat.min_eq_left (Nat.le_of_lt hk), hk]
theorem trimK_succ {s : Sto} {a : Int} {k : Nat} (hk : k < s.kc.length) : (s.trimK a k).set k (s.kc[k].1, s.kc[k].2.trim a) = s.trimK a (k + 1) := by
  unfold trimK
  rw [List.take_succ_eq_append_getElem hk, List.map_append, List.append_assoc]
  rw [List.set_append, if_neg (by simp; omega)]
  congr 1
  rw [List.length_map, List.length_take, Nat.min_eq_left (Nat.le_of_lt hk), Nat.sub_self, List.drop_eq_getElem_cons hk]
  rfl
end Sto

/-- What the loop holds at a round's head. -/
structure TrimInv (w w1 : World) (F : Nat → Prop) (sb mb : Nat) (l : List (ByteArray × Value)) (s : Sto) (a : Int) (k n : Nat) (wr : World) : Prop where
  le : k ≤ s.kc.length
  sum : n = ((s.kc.map fun p => p.2.cut a).take k).sum
  blk : wr.heap[sb]? = some (.cells #[.map (some mb), .int .i64 s.now] 91 (0, 0))
  mp : MapIs wr mb l
  held : ∃ G, Held wr l (s.trimK a k) G ∧ ∀ k i, G k i → ((F i ∧ i < w.heap.size) ∨ w1.heap.size ≤ i) ∧ i ≠ sb ∧ i ≠ mb
  fr : Fr (fun i => F i ∧ i < w.heap.size) w1 wr

theorem store_scan_nil (a most : Int) (lo hi : ByteArray) (w : World) : Calls Try.prog 45 #[.pointer none, .int .i64 a, .string lo, .string hi, .int .i64 most] w fun e w' => e = .returned (.slice none 0 0) ∧ w' = w := by
  go_enter Try.func45, Try.ntmps45
  go_wp2_with (go_at_call 66; refine (store_keys_nil _).mono ?_; rintro e w1 ⟨rfl, rfl⟩)
  refine wp_loop_rounds 1 ?_; rw [rounds_succ]
  go_wp2
  go_ret
  exact ⟨rfl, rfl⟩
end Go.Proofs.Ytkcppngopdiljaa
/- Layer 13 (store): Apply. -/
set_option linter.unusedVariables false
set_option linter.unusedSimpArgs false
namespace Go.Proofs.Ytkcppngopdiljaa
open Go.RowKit

theorem put1_put {n : Int} {kc : List (ByteArray × Chn)} {x : Wr} (h : look x.key kc = none) : slay x.key (Chn.empty.put n x.row x.gone) (slay x.key Chn.empty kc) = Sto.put1 n kc x := by
  rw [slay_slay]; unfold Sto.put1; rw [h]; rfl
theorem put1_some {n : Int} {kc : List (ByteArray × Chn)} {x : Wr} {c : Chn} (h : look x.key kc = some c) : slay x.key (c.put n x.row x.gone) kc = Sto.put1 n kc x := by
  unfold Sto.put1; rw [h]; rfl
theorem allFit_rising {last : ByteArray} {l : List Wr} (h : allFit last l = true) : Rising (l.map Wr.key) ∧ ∀ x ∈ l, kl last x.key = true := by
  induction l generalizing last with
  | nil => exact ⟨List.Pairwise.nil, fun x hx => by cases hx⟩
  | cons y l ih =>
    simp only [allFit, Bool.and_eq_true] at h
    obtain ⟨h1, h2⟩ := ih h.2
    have hy : kl last y.key = true := by
      have := h.1
      simp only [fits, Bool.and_eq_true] at this
      exact this.1.2
    refine ⟨List.pairwise_cons.2 ⟨fun k hk => ?_, h1⟩, fun x hx => ?_⟩
    · obtain ⟨x, hx, rfl⟩ := List.mem_map.1 hk
      exact h2 x hx
    · rcases List.mem_cons.1 hx with rfl | hx
      · exact hy
      · exact kl_trans hy (h2 x hx)
/-- What stands in the lists while a batch is laid in. -/
structure KcOk (n : Int) (m : Nat) (kc : List (ByteArray × Chn)) : Prop where
  rising : Rising (kc.map Prod.fst)
  keys : kc.length ≤ m
  ksz : ∀ p ∈ kc, p.1.size ≤ 4000
  chains : ∀ p ∈ kc, p.2.l.length ≤ m ∧ p.2.last ≤ n ∧ ∀ v ∈ p.2.l, v.row.length ≤ 4000
theorem put1_ok {n : Int} {m : Nat} {kc : List (ByteArray × Chn)} (h : KcOk n m kc) {x : Wr} (h0 : 0 ≤ n) (h1 : x.key.size ≤ 4000) (h2 : x.row.length ≤ 4000) : KcOk n (m + 1) (Sto.put1 n kc x) := by
  have hc : ((look x.key kc).getD Chn.empty).l.length ≤ m ∧ ∀ v ∈ ((look x.key kc).getD Chn.empty).l, v.row.length ≤ 4000 := by
    cases hl : look x.key kc with
    | none => exact ⟨Nat.zero_le _, fun v hv => by cases hv⟩
    | some c => have := h.chains _ (look_mem hl); exact ⟨this.1, this.2.2⟩
  refine ⟨slay_rising h.rising, Nat.le_trans slay_length (by have := h.keys; omega), fun p hp => ?_, fun p hp => ?_⟩
  · rcases mem_slay h.rising p hp with rfl | hp
    · exact h1
    · exact h.ksz p hp
  · rcases mem_slay h.rising p hp with rfl | hp
    · refine ⟨?_, Int.le_refl _, fun v hv => ?_⟩
      · show (_ ++ [_]).length ≤ _; rw [List.length_append]; have := hc.1; simp; omega
      · rcases List.mem_append.1 hv with hv | hv
        · exact hc.2 v hv
        · obtain rfl : v = _ := by simpa using hv
          exact h2
    · have := h.chains p hp; exact ⟨by omega, this.2⟩
theorem fold_ok {n : Int} {m : Nat} {kc : List (ByteArray × Chn)} (h : KcOk n m kc) (h0 : 0 ≤ n) {l : List Wr} (hl : ∀ x ∈ l, x.key.size ≤ 4000 ∧ x.row.length ≤ 4000) : KcOk n (m + l.length) (l.foldl (Sto.put1 n) kc) := by
  induction l generalizing kc m with
  | nil => exact h
  | cons x l ih =>
    have hx := hl x (List.mem_cons_self ..)
    have := ih (put1_ok h h0 hx.1 hx.2) fun y hy => hl y (List.mem_cons_of_mem _ hy)
    rw [List.length_cons, show m + (l.length + 1) = m + 1 + l.length by omega]
    exact this
theorem fold_look {n : Int} {kc : List (ByteArray × Chn)} (h : Rising (kc.map Prod.fst)) {l : List Wr} {k : ByteArray} (hk : k ∉ l.map Wr.key) : look k (l.foldl (Sto.put1 n) kc) = look k kc := by
  induction l generalizing kc with
  | nil => rfl
  | cons x l ih =>
    simp only [List.map_cons, List.mem_cons, not_or] at hk
    have h1 := ih (kc := Sto.put1 n kc x) (slay_rising h) hk.2
    rw [List.foldl_cons, h1]
    unfold Sto.put1
    rw [look_slay h, if_neg (fun e => hk.1 e.symm)]
theorem Sto.Small.kcOk {s : Sto} {m : Nat} (h : s.Small m) (hr : Rising (s.kc.map Prod.fst)) : KcOk (s.now + 1) m s.kc :=
  ⟨hr, h.keys, h.ksz, fun p hp => by have := h.chains p hp; exact ⟨this.1, by omega, this.2.2⟩⟩
theorem Sto.Small.applied {s : Sto} {m : Nat} (h : s.Small m) (hr : Rising (s.kc.map Prod.fst)) {l : List Wr} (hok : right (s.now + 1) l = true) : Sto.Small ⟨l.foldl (Sto.put1 (s.now + 1)) s.kc, s.now + 1⟩ (m + 64) := by
  unfold right at hok
  simp only [Bool.and_eq_true, decide_eq_true_eq] at hok
  have h1 := fold_ok (h.kcOk hr) (by have := h.now0; omega) fun x hx => by have := allFit_mem hok.1 x hx; exact ⟨this.2.1, this.2.2.1⟩
  have hl := hok.2.2
  exact ⟨by have := h.now0; show 0 ≤ s.now + 1; omega, by have := h.now1; show s.now + 1 ≤ _; omega, by have := h1.keys; show (l.foldl (Sto.put1 (s.now + 1)) s.kc).length ≤ _; omega, h1.ksz, fun p hp => by have := h1.chains p hp; exact ⟨by omega, this.2⟩⟩

/-- What the loop holds at a round's head. -/
structure ApInv (w w1 : World) (F : Nat → Prop) (sb mb : Nat) (s : Sto) (n : Int) (ws : List Wr) (k : Nat) (wr : World) : Prop where
  le : k ≤ ws.length
  blk : wr.heap[sb]? = some (.cells #[.map (some mb), .int .i64 n] 91 (0, 0))
  held : ∃ l G, MapIs wr mb l ∧ Held wr l ((ws.take k).foldl (Sto.put1 n) s.kc) G ∧ ∀ k i, G k i → ((F i ∧ i < w.heap.size) ∨ w1.heap.size ≤ i) ∧ i ≠ sb ∧ i ≠ mb
  fr : Fr (fun i => F i ∧ i < w.heap.size) w1 wr

theorem ap_next {w wl W w5 : World} {F : Nat → Prop} {sb mb : Nat} {s : Sto} {n : Int} {ws : List Wr} {k b : Nat} {l2 : List (ByteArray × Value)} {kc2 : List (ByteArray × Chn)} {G2 : ByteArray → Nat → Prop} {key : ByteArray} {c' : Chn} (hlt : k < ws.length)
    (hsz : sb < wl.heap.size ∧ mb < wl.heap.size) (hfr : Fr (fun i => F i ∧ i < w.heap.size) wl W) (hblk : W.heap[sb]? = some (.cells #[.map (some mb), .int .i64 n] 91 (0, 0))) (h5 : MapIs W mb l2) (hG : Held W l2 kc2 G2)
    (hGF : ∀ k i, G2 k i → ((F i ∧ i < w.heap.size) ∨ wl.heap.size ≤ i) ∧ i ≠ sb ∧ i ≠ mb) (hv : look key l2 = some (.pointer (some ⟨b, 0, none⟩))) (hc5 : ChainAt w5 (fun i => G2 key i ∨ W.heap.size ≤ i) b c') (hf5 : Fr (G2 key) W w5)
    (heq : slay key c' kc2 = (ws.take (k + 1)).foldl (Sto.put1 n) s.kc) : ApInv w wl F sb mb s n ws (k + 1) w5 := by
  obtain ⟨G3, hG3, hsub⟩ := hG.turn hv hf5 hc5
  rw [heq] at hG3
  have hs := hfr.size
  refine ⟨by omega, hf5.blk hblk (fun h => (hGF _ _ h).2.1 rfl), ⟨l2, G3, h5.stab (hf5.block _ h5.lt (fun h => (hGF _ _ h).2.2 rfl)), hG3, fun k' i hi => ?_⟩, hfr.trans (hf5.mono fun i _ hi => (hGF _ _ hi).1)⟩
  rcases hsub k' i hi with ⟨k'', h⟩ | h
  · exact hGF k'' i h
  · exact ⟨.inr (by omega), by omega, by omega⟩

set_option maxHeartbeats 2000000 in
set_option maxRecDepth 100000 in
theorem store_apply_ok {w : World} {F R : Nat → Prop} {sb : Nat} {s : Sto} {m : Nat} {A : Option Addr} {c : Nat} {ws : List Wr} (h : StoreAt w F sb s) (hs : s.Small m) (hm : m ≤ 100000000) (hR : Rd tWr w R A ws) (hd : ∀ i, R i → ¬ F i)
    (hok : right (s.now + 1) ws = true) :
    Calls Try.prog 38 #[.pointer (some ⟨sb, 0, none⟩), .agg #[.int .i64 (s.now + 1), .slice A ws.length c]] w fun e w' =>
      e = .returned (.int .i64 0) ∧ StoreAt w' (fun i => F i ∨ w.heap.size ≤ i) sb ⟨ws.foldl (Sto.put1 (s.now + 1)) s.kc, s.now + 1⟩ ∧ Fr F w w' := by
  have hlen : ws.length ≤ 64 := by
    unfold right at hok
    simp only [Bool.and_eq_true, decide_eq_true_eq] at hok
    exact hok.2.2
  have hfit : allFit ⟨#[]⟩ ws = true := by
    unfold right at hok
    simp only [Bool.and_eq_true] at hok
    exact hok.1
  have hright := fun w' (f : Fr No w w') => right_ok (w := w') (s.now + 1) A c ws (hR.fr0 f) (by omega) (fun x hx => by have := allFit_mem hfit x hx; omega)
  rw [hok] at hright
  obtain ⟨h1, mb, l, G, h2, h3, h4, h5, h6, h7⟩ := h
  have c0 := blk_cell h4 0
  have c1 := blk_cell h4 1
  have z1 := blk_frozen h4 1
  simp at c0 c1
  have hn0 := hs.now0
  have hn1 : s.now ≤ 100000000 := by have := hs.now1; omega
  have lsb := blk_lt h4
  have cc : ∀ w', Fr No w w' → w'.heap[sb]? = some (.cells #[.map (some mb), .int .i64 s.now] 91 (0, 0)) := fun w' f => f.blk h4 (fun f => f)
  have CC := Lib.hid cc
  have HRt := Lib.hid hright
  clear cc hright
  have HH := Lib.hid (And.intro h1 (And.intro h2 (And.intro h3 (And.intro h4 (And.intro h5 (And.intro h6 (And.intro h7 (And.intro hs (And.intro hm (And.intro hR (And.intro hd (And.intro hfit hlen))))))))))))
  clear h1 h2 h4 h5 h6 h7 hs hR hd hfit hok
  go_enter Try.func38, Try.ntmps38
  go_wp2_with (go_at_call 57; refine (HRt.out _ ((Fr.refl No w).alloc _)).mono ?_; rintro e w1 ⟨rfl, hf1⟩
               have b0 := blk_cell (CC.out w1 (((Fr.refl No w).alloc _).trans (hf1.mono fun _ _ f => f.elim))) 0
               have b1 := blk_cell (CC.out w1 (((Fr.refl No w).alloc _).trans (hf1.mono fun _ _ f => f.elim))) 1
               have y1 := blk_frozen (CC.out w1 (((Fr.refl No w).alloc _).trans (hf1.mono fun _ _ f => f.elim))) 1
               have e0 : w1.cell? ⟨w.heap.size, 0, none⟩ = some (.int .i64 (s.now + 1)) := hf1.cell (by simp) (fun f => f)
               have e1 : w1.cell? ⟨w.heap.size, 1, none⟩ = some (.slice A ws.length c) := hf1.cell (by simp) (fun f => f)
               simp at b0 b1
               have HF1 := Lib.hid hf1; clear hf1)
  go_quiet (fail)
  go_wp2
  have hfw : Fr No w w1 := ((Fr.refl No w).alloc _).trans (HF1.out.mono fun _ _ f => f.elim)
  have hwsz : w.heap.size < w1.heap.size := by have := HF1.out.size; simp at this; omega
  obtain ⟨wl, hwl⟩ : ∃ x, x = (w1.drewN nq).setCell ⟨sb, 1, none⟩ (.int .i64 (s.now + 1)) := ⟨_, rfl⟩
  rw [← hwl]
  have hsl : wl.heap.size = w1.heap.size := by rw [hwl]; simp
  have hbl : wl.heap[sb]? = some (.cells #[.map (some mb), .int .i64 (s.now + 1)] 91 (0, 0)) := by
    rw [hwl]
    have := blk_set (w := w1.drewN nq) (CC.out w1 hfw) 1 (.int .i64 (s.now + 1))
    simpa using this
  have hother : ∀ k, k ≠ sb → wl.heap[k]? = w1.heap[k]? := fun k hk => by rw [hwl]; exact Below.heap_setCell (w1.drewN nq) ⟨sb, 1, none⟩ _ k hk
  have hfl : Fr (fun i => F i ∧ i < w.heap.size) w wl := by
    rw [hwl]
    exact ((hfw.drewN nq).mono fun _ _ f => f.elim).set _ (.inl ⟨HH.out.1, lsb⟩) _
  have f0 : wl.cell? ⟨w.heap.size, 0, none⟩ = some (.int .i64 (s.now + 1)) := (World.cell?_of_block (a := ⟨w.heap.size, 0, none⟩) (hother w.heap.size (by omega))).trans e0
  have f1 : wl.cell? ⟨w.heap.size, 1, none⟩ = some (.slice A ws.length c) := (World.cell?_of_block (a := ⟨w.heap.size, 1, none⟩) (hother w.heap.size (by omega))).trans e1
  have hst : ApInv w wl F sb mb s (s.now + 1) ws 0 wl := by
    obtain ⟨h1, h2, h3, h4, h5, h6, h7, _⟩ := HH.out
    refine ⟨Nat.zero_le _, hbl, ⟨l, G, h5.stab ((hother _ h3).trans (hfw.block _ h5.lt (fun f => f))), h6.stab (by have := hfw.size; omega) (fun k i hi => (hother _ (h7 k i hi).2.1).trans (hfw.block _ (h6.lt k i hi) (fun f => f))), fun k i hi => ⟨.inl ⟨(h7 k i hi).1, h6.lt k i hi⟩, (h7 k i hi).2⟩⟩, Fr.refl _ _⟩
  have HL := Lib.hid (And.intro hst (And.intro hfl (And.intro f0 (And.intro f1 (And.intro hsl hwsz)))))
  clear hst hfl f0 f1 hother hbl hsl hwsz hfw e0 e1 b0 b1 y1 HF1 hwl
  go_loopw [31] (fun i wr => ∃ k : Nat, i = .int .i64 k ∧ Hid (ApInv w wl F sb mb s (s.now + 1) ws k wr)) (fun i _ => ws.length - (intOf i).toNat)
  case atStart => exact ⟨0, rfl, HL.out.1⟩
  case round =>
    obtain ⟨k, rfl, I⟩ := hrel
    by_cases hlt : k < ws.length
    · obtain ⟨hst, hfl, f0, f1, hsl, hwsz⟩ := HL.out
      have hRl := (HH.out.2.2.2.2.2.2.2.2.2.1.fr hfl fun i hi hf => HH.out.2.2.2.2.2.2.2.2.2.2.1 i hi hf.1).fr I.out.fr fun i hi hf => HH.out.2.2.2.2.2.2.2.2.2.2.1 i hi hf.1
      obtain ⟨ad, A', c', rfl, x0, x1, x2, hc', hrd⟩ := wr_at hRl hlt
      have g0 : wr.cell? ⟨w.heap.size, 0, none⟩ = some (.int .i64 (s.now + 1)) := I.out.fr.cell f0 (fun h => Nat.lt_irrefl _ h.2)
      have c0' := blk_cell I.out.blk 0
      have hfx := allFit_mem HH.out.2.2.2.2.2.2.2.2.2.2.2.1 _ (List.getElem_mem hlt)
      obtain ⟨l', G', h5, hG, hGF⟩ := I.out.held
      have hzs : ∀ d, (zeroValue 111).run Try.prog ((wr.alloc (.cells #[.string ws[k].key, .slice A' ws[k].row.length c', .bool ws[k].gone] 43)).drewN d) = .ok (.pointer none) ((wr.alloc (.cells #[.string ws[k].key, .slice A' ws[k].row.length c', .bool ws[k].gone] 43)).drewN d) := fun d => zero_chain _
      have hrun := fun d => (run_map_look (P := Try.prog) (w := (wr.alloc (.cells #[.string ws[k].key, .slice A' ws[k].row.length c', .bool ws[k].gone] 43)).drewN d) (h5.stab (Below.heap_alloc _ _ _ h5.lt)) 89 _ _ Try.underlying89 Try.underlying9 _ (hzs d) ws[k].key).1
      clear hzs hst hfl f0 f1 hRl
      have hfold : (ws.take (k + 1)).foldl (Sto.put1 (s.now + 1)) s.kc = Sto.put1 (s.now + 1) ((ws.take k).foldl (Sto.put1 (s.now + 1)) s.kc) ws[k] := by
        rw [List.take_succ_eq_append_getElem hlt, List.foldl_append]; rfl
      obtain ⟨x, hx⟩ : ∃ x, ws[k] = x := ⟨_, rfl⟩
      rw [hx] at x0 x1 x2 hrd hfx hfold hc'
      simp only [hx] at hrun
      obtain ⟨kc, hkc⟩ : ∃ kc, (ws.take k).foldl (Sto.put1 (s.now + 1)) s.kc = kc := ⟨_, rfl⟩
      rw [hkc] at hG hfold
      have hk0 : (0 : Int) ≤ (k : Int) := Int.natCast_nonneg _
      have hk1 : (k : Int) < (ws.length : Int) := by omega
      have hl64 : (ws.length : Int) ≤ 64 := by have := HH.out.2.2.2.2.2.2.2.2.2.2.2.2; omega
      have hrow : x.row.length ≤ 4000 := hfx.2.2.1
      simp at c0'
      have c0a := fun o => cell_alloc c0' o
      have g0a := fun o => cell_alloc g0 o
      have hko : kc.length ≤ 1000000000 ∧ ∀ ch, look x.key kc = some ch → ch.l.length ≤ 1000000000 ∧ ch.last < s.now + 1 := by
        obtain ⟨h1, h2, h3, h4, h5', h6, h7, hs, hm, hR, hd, hfit, hlen⟩ := HH.out
        have hr0 : Rising (s.kc.map Prod.fst) := h6.rising
        have hk1 := fold_ok (hs.kcOk hr0) (by omega) (l := ws.take k) fun y hy => by have := allFit_mem hfit y (List.mem_of_mem_take hy); exact ⟨this.2.1, this.2.2.1⟩
        rw [hkc] at hk1
        have hll : (ws.take k).length ≤ 64 := by have := List.length_take_le k ws; omega
        have hnk : x.key ∉ (ws.take k).map Wr.key := by
          intro hm'
          have hnd := (allFit_rising hfit).1
          obtain ⟨y, hy, e⟩ := List.mem_map.1 hm'
          obtain ⟨j, hj, rfl⟩ := List.getElem_of_mem hy
          have hj' : j < k := by simp at hj; omega
          rw [List.getElem_take] at e
          have h9 := List.pairwise_iff_getElem.1 (List.pairwise_map.1 hnd) j k (by omega) hlt hj'
          rw [hx, e, kl_irrefl] at h9
          cases h9
        refine ⟨by have := hk1.keys; omega, fun ch hch => ?_⟩
        have h8 : ch.l.length ≤ m + (ws.take k).length := (hk1.chains _ (look_mem hch)).1
        refine ⟨by omega, ?_⟩
        rw [← hkc, fold_look hr0 hnk] at hch
        have : ch.last ≤ s.now := (hs.chains _ (look_mem hch)).2.1
        omega
      have KO := Lib.hid hko
      clear hko
      have HX := Lib.hid (And.intro hfold (And.intro h5 (And.intro hG (And.intro hGF (And.intro hrd hfx)))))
      clear hx hkc hfold hrd hfx
      cases hlk : look x.key kc with
      | some ch =>
        obtain ⟨v, hv⟩ : ∃ v, look x.key l' = some v := by
          cases hl : look x.key l' with
          | none => rw [(hG.keys _).1 hl] at hlk; cases hlk
          | some v => exact ⟨v, rfl⟩
        obtain ⟨b, rfl, hb⟩ := hG.at_ _ _ _ hv hlk
        simp only [hv, Option.getD_some] at hrun
        clear hG hGF h5
        have hrun0 := hrun 0
        rw [World.drewN_zero] at hrun0
        go_wp2_with fail
        go_quiet (fail)
        go_wp2_with fail
        obtain ⟨W, hW⟩ : ∃ W, W = (wr.alloc (.cells #[.string x.key, .slice A' x.row.length c', .bool x.gone] 43)).drewN nq := ⟨_, rfl⟩
        rw [← hW]
        have hfW : Fr No wr W := by rw [hW]; exact ((Fr.refl No wr).alloc _).drewN nq
        have w0 : W.cell? ⟨sb, 0, none⟩ = some (.map (some mb)) := by rw [hW]; exact c0a _
        have w1' : W.cell? ⟨w.heap.size, 0, none⟩ = some (.int .i64 (s.now + 1)) := by rw [hW]; exact g0a _
        have w2 : W.cell? ⟨wr.heap.size, 0, none⟩ = some (.string x.key) := by rw [hW]; simp
        have w3 : W.cell? ⟨wr.heap.size, 1, none⟩ = some (.slice A' x.row.length c') := by rw [hW]; simp
        have w4 : W.cell? ⟨wr.heap.size, 2, none⟩ = some (.bool x.gone) := by rw [hW]; simp
        have hrW : Sem.run Try.prog (Instr.lookup 89 (.map (some mb)) (.string x.key) false) W.drew = .ok (.pointer (some ⟨b, 0, none⟩)) W.drew := by rw [hW]; exact hrun (nq + 1)
        clear hrun hrun0 hW
        refine still_tail 13 (by kernel_rfl) (by kernel_rfl) ?_
        simp only [List.take_succ_cons, List.take_zero, List.drop_succ_cons, List.drop_zero]
        repeat still_step
        try refine wpStill_nil ?_
        have hbW : ChainAt W.drew (G' x.key) b ch := hb.fr0 (hfW.drew)
        have hRW : Rd Ty.u8 W.drew R A' x.row := HX.out.2.2.2.2.1.fr0 (hfW.drew)
        have HB := Lib.hid (And.intro hbW (And.intro hRW (And.intro hlk hv)))
        clear hbW hRW hb hlk hv
        have hlast : ch.last < s.now + 1 := (KO.out.2 ch HB.out.2.2.1).2
        have hchl : ch.l.length ≤ 1000000000 := (KO.out.2 ch HB.out.2.2.1).1
        go_wp2_with (go_at_call 59; refine (chain_put HB.out.1 hchl (by omega) HB.out.2.1 hlast).mono ?_; rintro e w5 ⟨rfl, hc5, hf5⟩; have H5 := Lib.hid (And.intro hc5 hf5); clear hc5 hf5)
        go_roundw
        case rel =>
          obtain ⟨hfold, h5, hG, hGF, _, _⟩ := HX.out
          obtain ⟨hst, hfl, f0, f1, hsl, hwsz⟩ := HL.out
          have hf6 : Fr No wr W.drew := hfW.drew
          exact ⟨k + 1, by go_num, ap_next hlt ⟨by rw [hsl]; omega, by have := HH.out.2.2.2.2.1.lt; rw [hsl]; omega⟩ (I.out.fr.trans (hf6.mono fun _ _ f => f.elim)) (hf6.blk I.out.blk (fun f => f)) (h5.stab (hf6.block _ h5.lt (fun f => f))) (hG.fr0 hf6) hGF HB.out.2.2.2 H5.out.1 H5.out.2 (by rw [hfold]; exact put1_some HB.out.2.2.1)⟩
        case measure => simp [intOf]; omega
      | none =>
        have hv : look x.key l' = none := (hG.keys _).2 hlk
        simp only [hv, Option.getD_none] at hrun
        have h5' := Lib.hid h5
        clear hG hGF h5
        have hrun0 := hrun 0
        rw [World.drewN_zero] at hrun0
        go_wp2_with fail
        go_quiet (fail)
        go_wp2_with fail
        obtain ⟨W, hW⟩ : ∃ W, W = (wr.alloc (.cells #[.string x.key, .slice A' x.row.length c', .bool x.gone] 43)).drewN nq := ⟨_, rfl⟩
        rw [← hW]
        have hfW : Fr No wr W := by rw [hW]; exact ((Fr.refl No wr).alloc _).drewN nq
        have w0 : W.cell? ⟨sb, 0, none⟩ = some (.map (some mb)) := by rw [hW]; exact c0a _
        have w1' : W.cell? ⟨w.heap.size, 0, none⟩ = some (.int .i64 (s.now + 1)) := by rw [hW]; exact g0a _
        have w2 : W.cell? ⟨wr.heap.size, 0, none⟩ = some (.string x.key) := by rw [hW]; simp
        have w3 : W.cell? ⟨wr.heap.size, 1, none⟩ = some (.slice A' x.row.length c') := by rw [hW]; simp
        have w4 : W.cell? ⟨wr.heap.size, 2, none⟩ = some (.bool x.gone) := by rw [hW]; simp
        have hszW : W.heap.size = wr.heap.size + 1 := by rw [hW]; simp
        clear hrun hrun0 hW
        have hlw : wr.heap.size < W.heap.size := by omega
        go_region_held3 (fun w' => w'.cell? ⟨sb, 0, none⟩ = some (.map (some mb)) ∧ w'.cell? ⟨wr.heap.size, 0, none⟩ = some (.string x.key)) (first | go_keep | exact ⟨k0, k1⟩ | exact ⟨j0, j1⟩)
          (first
            | (go_at_call 58; refine (chain_new _).mono ?_; rintro e w6 ⟨nb, rfl, hc6, hf6⟩
               have k0 : w6.cell? ⟨sb, 0, none⟩ = some (.map (some mb)) := hf6.cell w0 (fun f => f)
               have k1 : w6.cell? ⟨wr.heap.size, 0, none⟩ = some (.string x.key) := hf6.cell w2 (fun f => f)
               have hf6' : Fr No wr w6 := (hfW.drew).trans (hf6.mono fun _ _ f => f.elim)
               obtain ⟨w7, hU, hM, hF7⟩ := run_map_lay (P := Try.prog) (w := w6) (h5'.out.stab (hf6'.block _ h5'.out.lt (fun f => f))) 89 _ _ Try.underlying89 Try.underlying9 x.key (.pointer (some ⟨nb, 0, none⟩))
               have j0 : w7.cell? ⟨sb, 0, none⟩ = some (.map (some mb)) := hF7.cell k0 (fun e => h3 e.symm)
               have j1 : w7.cell? ⟨wr.heap.size, 0, none⟩ = some (.string x.key) := hF7.cell k1 (fun e => by have := h5'.out.lt; simp at e; omega)
               have HM := Lib.hid (And.intro hc6 (And.intro hf6 (And.intro hM hF7)))
               clear hc6 hf6 hM hF7))
        have hn0w : W.heap.size ≤ w6.heap.size := HM.out.2.1.size
        have hbx : ∀ a v, a.block ≠ mb → W.cell? a = some v → w7.cell? a = some v := fun a v ha h => HM.out.2.2.2.cell (HM.out.2.1.cell h (fun f => f)) ha
        have hmlt : mb < wr.heap.size := h5'.out.lt
        have hmlw : mb < w.heap.size := HH.out.2.2.2.2.1.lt
        have hmw : mb ≠ w.heap.size := by omega
        have v0 : w7.cell? ⟨w.heap.size, 0, none⟩ = some (.int .i64 (s.now + 1)) := hbx _ _ hmw.symm w1'
        have v1 : w7.cell? ⟨wr.heap.size, 1, none⟩ = some (.slice A' x.row.length c') := hbx _ _ (by simp; omega) w3
        have v2 : w7.cell? ⟨wr.heap.size, 2, none⟩ = some (.bool x.gone) := hbx _ _ (by simp; omega) w4
        have hrW : Sem.run Try.prog (Instr.lookup 89 (.map (some mb)) (.string x.key) false) w7.drew = .ok (.pointer (some ⟨nb, 0, none⟩)) w7.drew := by
          have := (run_map_look (P := Try.prog) (w := w7.drew) (HM.out.2.2.1.stab rfl) 89 _ _ Try.underlying89 Try.underlying9 _ (zero_chain _) x.key).1
          rw [look_lay, if_pos rfl] at this
          exact this
        clear hbx hmlw
        go_wp2_with fail
        refine still_tail 13 (by kernel_rfl) (by kernel_rfl) ?_
        simp only [List.take_succ_cons, List.take_zero, List.drop_succ_cons, List.drop_zero]
        repeat still_step
        try refine wpStill_nil ?_
        obtain ⟨G7, hG7, hsub, hb7⟩ : ∃ G7, Held w7.drew (lay x.key (.pointer (some ⟨nb, 0, none⟩)) l') (slay x.key Chn.empty kc) G7 ∧ (∀ k i, G7 k i → (∃ k', G' k' i) ∨ W.drew.heap.size ≤ i) ∧ ChainAt w7.drew (G7 x.key) nb Chn.empty := by
          obtain ⟨hfold, h5, hG, hGF, _, _⟩ := HX.out
          obtain ⟨G7, hG6, hsub⟩ := (hG.fr0 hfW.drew).more hlk HM.out.2.1 HM.out.1
          have hG7 : Held w7.drew _ _ G7 := (hG6.fr HM.out.2.2.2 fun k i hi e => by
            subst e
            rcases hsub k i hi with ⟨k', h⟩ | h
            · exact (hGF k' i h).2.2 rfl
            · simp at h; omega).fr0 ((Fr.refl No _).drew)
          refine ⟨G7, hG7, hsub, ?_⟩
          obtain ⟨b, e, hc⟩ := hG7.at_ x.key _ Chn.empty (by rw [look_lay, if_pos rfl]) (by rw [look_slay hG.rising, if_pos rfl])
          injection e with e; injection e with e; injection e with e
          subst e
          exact hc
        have hR7 : Rd Ty.u8 w7.drew R A' x.row := ((HX.out.2.2.2.2.1.fr0 hf6').fr HM.out.2.2.2 fun i hi e => by subst e; exact HH.out.2.2.2.2.2.2.2.2.2.2.1 i hi HH.out.2.1).fr0 ((Fr.refl No _).drew)
        have HB := Lib.hid (And.intro hb7 (And.intro hR7 (And.intro hG7 hsub)))
        clear hb7 hR7 hG7 hsub
        have hlast : Chn.empty.last < s.now + 1 := by show (0 : Int) < _; omega
        go_wp2_with (go_at_call 59; refine (chain_put HB.out.1 (by show 0 ≤ _; omega) (by omega) HB.out.2.1 hlast).mono ?_; rintro e w5 ⟨rfl, hc5, hf5⟩; have H5 := Lib.hid (And.intro hc5 hf5); clear hc5 hf5)
        go_roundw
        case rel =>
          obtain ⟨hfold, h5, hG, hGF, _, _⟩ := HX.out
          obtain ⟨hst, hfl, f0, f1, hsl, hwsz⟩ := HL.out
          have hFl7 : Fr (fun i => F i ∧ i < w.heap.size) wl w7.drew := (I.out.fr.trans ((hf6'.mono fun _ _ f => f.elim).trans (HM.out.2.2.2.mono fun i _ e => by subst e; exact .inl (.inl ⟨HH.out.2.1, HH.out.2.2.2.2.1.lt⟩)))).drew
          have hWs : wr.heap.size + 1 = W.drew.heap.size := by simp; omega
          have hwls : wl.heap.size ≤ wr.heap.size := I.out.fr.size
          exact ⟨k + 1, by go_num, ap_next hlt ⟨by rw [hsl]; omega, by have := HH.out.2.2.2.2.1.lt; rw [hsl]; omega⟩ hFl7 (HM.out.2.2.2.blk (hf6'.blk I.out.blk (fun f => f)) (fun e => h3 e.symm)) (HM.out.2.2.1.stab rfl) HB.out.2.2.1 (fun k i hi => by
            rcases HB.out.2.2.2 k i hi with ⟨k', h⟩ | h
            · exact hGF k' i h
            · exact ⟨.inr (by omega), by omega, by omega⟩) (by rw [look_lay, if_pos rfl]) H5.out.1 H5.out.2 (by rw [hfold]; exact put1_put hlk)⟩
        case measure => simp [intOf]; omega
    · obtain rfl : k = ws.length := by have := I.out.le; omega
      go_wp2
      go_ret
      obtain ⟨l', G', h5, hG, hGF⟩ := I.out.held
      rw [List.take_length] at hG
      refine ⟨rfl, ⟨.inl HH.out.1, mb, l', G', .inl HH.out.2.1, HH.out.2.2.1, I.out.blk, h5, hG, fun k i hi => ⟨?_, (hGF k i hi).2⟩⟩, (HL.out.2.1.mono fun _ _ h => h.1).trans (I.out.fr.mono fun i _ h => .inl h.1)⟩
      rcases (hGF k i hi).1 with h | h
      · exact .inl h.1
      · exact .inr (by have := HL.out.2.1.size; omega)
end Go.Proofs.Ytkcppngopdiljaa
/- Layer 13 (store): a batch laid in, key by key: plain functions and facts. -/
set_option linter.unusedVariables false
set_option linter.unusedSimpArgs false
namespace Go.Proofs.Ytkcppngopdiljaa

/-- A key's chain behind some writes of the batch n, of which at most one is the key's. -/
def upd (n : Int) (l : List Wr) (k : ByteArray) (c : Chn) : Chn :=
  match l.find? (fun x => decide (x.key = k)) with
  | some x => c.put n x.row x.gone
  | none => c
theorem upd_nil (n : Int) (k : ByteArray) (c : Chn) : upd n [] k c = c := rfl
theorem find_none {l : List Wr} {k : ByteArray} (h : k ∉ l.map Wr.key) : l.find? (fun x => decide (x.key = k)) = none := by
  rw [List.find?_eq_none]
  intro x hx hk
  exact h (List.mem_map.2 ⟨x, hx, by simpa using hk⟩)
theorem upd_none {n : Int} {l : List Wr} {k : ByteArray} {c : Chn} (h : k ∉ l.map Wr.key) : upd n l k c = c := by unfold upd; rw [find_none h]
theorem upd_snoc_ne {n : Int} {l : List Wr} {k : ByteArray} {c : Chn} {x : Wr} (h : x.key ≠ k) : upd n (l ++ [x]) k c = upd n l k c := by
  unfold upd
  rw [List.find?_append]
  cases l.find? (fun x => decide (x.key = k)) with
  | some y => rfl
  | none => simp [h]
theorem upd_snoc_eq {n : Int} {l : List Wr} {c : Chn} {x : Wr} (h : x.key ∉ l.map Wr.key) : upd n (l ++ [x]) x.key c = c.put n x.row x.gone := by
  unfold upd
  rw [List.find?_append, find_none h]
  simp
theorem upd_cons_ne {n : Int} {l : List Wr} {k : ByteArray} {c : Chn} {x : Wr} (h : x.key ≠ k) : upd n (x :: l) k c = upd n l k c := by
  unfold upd; rw [List.find?_cons_of_neg (by simpa using h)]
theorem upd_cons_eq {n : Int} {l : List Wr} {c : Chn} {x : Wr} : upd n (x :: l) x.key c = c.put n x.row x.gone := by
  unfold upd; rw [List.find?_cons_of_pos (by simp)]

/-- Two lists of one's keys, each once, in which each key has the same value, are one. -/
theorem assoc_ext {β : Type} {l m : List (ByteArray × β)} (hk : l.map Prod.fst = m.map Prod.fst) (hn : (l.map Prod.fst).Nodup) (h : ∀ k, look k l = look k m) : l = m := by
  induction l generalizing m with
  | nil =>
    cases m with
    | nil => rfl
    | cons y m => simp at hk
  | cons x l ih =>
    cases m with
    | nil => simp at hk
    | cons y m =>
      simp only [List.map_cons, List.cons.injEq] at hk
      obtain ⟨h1, h2⟩ := List.nodup_cons.1 hn
      have hx := h x.1
      have hxy : x = y := by
        have e1 : look x.1 (x :: l) = some x.2 := by simp [look]
        have e2 : look x.1 (y :: m) = some y.2 := by simp [look, hk.1]
        rw [e1, e2] at hx
        injection hx with hx
        exact Prod.ext hk.1 hx
      subst hxy
      congr 1
      refine ih hk.2 h2 fun k => ?_
      by_cases e : x.1 = k
      · subst e
        rw [look_none_iff.2 h1, look_none_iff.2 (by rw [← hk.2]; exact h1)]
      · have := h k
        simp only [look, if_neg e] at this
        exact this
theorem look_map {l : List ByteArray} {β : Type} {f : ByteArray → β} {k : ByteArray} (h : k ∈ l) : look k (l.map fun x => (x, f x)) = some (f k) := by
  induction l with
  | nil => cases h
  | cons x l ih =>
    simp only [List.map_cons, look]
    by_cases e : x = k
    · subst e; simp
    · rw [if_neg e]
      rcases List.mem_cons.1 h with h | h
      · exact absurd h.symm e
      · exact ih h

theorem fold_rising {n : Int} {kc : List (ByteArray × Chn)} (h : Rising (kc.map Prod.fst)) (l : List Wr) : Rising ((l.foldl (Sto.put1 n) kc).map Prod.fst) := by
  induction l generalizing kc with
  | nil => exact h
  | cons x l ih => exact ih (slay_rising h)
theorem fold_keys {n : Int} {kc : List (ByteArray × Chn)} (l : List Wr) (k : ByteArray) : k ∈ (l.foldl (Sto.put1 n) kc).map Prod.fst ↔ k ∈ kc.map Prod.fst ∨ k ∈ l.map Wr.key := by
  induction l generalizing kc with
  | nil => simp
  | cons x l ih =>
    rw [List.foldl_cons, ih]
    have : (Sto.put1 n kc x).map Prod.fst = ins x.key (kc.map Prod.fst) := slay_keys ..
    rw [this, mem_ins, List.map_cons, List.mem_cons]
    constructor
    · rintro ((h | h) | h)
      · exact .inr (.inl h)
      · exact .inl h
      · exact .inr (.inr h)
    · rintro (h | h | h)
      · exact .inl (.inr h)
      · exact .inl (.inl h)
      · exact .inr h
/-- What a key has behind a batch of keys that rise. -/
theorem fold_at {n : Int} {kc : List (ByteArray × Chn)} (hr : Rising (kc.map Prod.fst)) {l : List Wr} (hn : (l.map Wr.key).Nodup) (k : ByteArray) (hk : k ∈ kc.map Prod.fst ∨ k ∈ l.map Wr.key) :
    look k (l.foldl (Sto.put1 n) kc) = some (upd n l k ((look k kc).getD Chn.empty)) := by
  induction l generalizing kc with
  | nil =>
    rw [List.foldl_nil, upd_nil]
    cases h : look k kc with
    | some c => rfl
    | none => rcases hk with hk | hk; exact absurd hk (look_none_iff.1 h); cases hk
  | cons x l ih =>
    rw [List.map_cons] at hn
    obtain ⟨h1, h2⟩ := List.nodup_cons.1 hn
    have hput : look k (Sto.put1 n kc x) = if x.key = k then some (((look x.key kc).getD Chn.empty).put n x.row x.gone) else look k kc := look_slay hr k
    by_cases e : x.key = k
    · subst e
      rw [List.foldl_cons, upd_cons_eq, fold_look (kc := Sto.put1 n kc x) (slay_rising hr) h1, hput, if_pos rfl]
    · rw [List.foldl_cons, upd_cons_ne e]
      have hk' : k ∈ (Sto.put1 n kc x).map Prod.fst ∨ k ∈ l.map Wr.key := by
        rcases hk with hk | hk
        · have : (Sto.put1 n kc x).map Prod.fst = ins x.key (kc.map Prod.fst) := slay_keys ..
          rw [this, mem_ins]; exact .inl (.inr hk)
        · rw [List.map_cons] at hk
          rcases List.mem_cons.1 hk with hk | hk
          · exact absurd hk.symm e
          · exact .inr hk
      rw [ih (kc := Sto.put1 n kc x) (slay_rising hr) h2 hk', hput, if_neg e]
/-- The document's way: all keys, rising; of each its chain. -/
theorem apply_keys {s : Sto} {n : Int} {l : List Wr} (hr : Rising (s.kc.map Prod.fst)) (hn : (l.map Wr.key).Nodup) :
    l.foldl (Sto.put1 n) s.kc = (rise (s.kc.map Prod.fst ++ l.map Wr.key)).map fun k => (k, upd n l k (s.of k)) := by
  have h1 := fold_rising (n := n) hr l
  have hk : (l.foldl (Sto.put1 n) s.kc).map Prod.fst = ((rise (s.kc.map Prod.fst ++ l.map Wr.key)).map fun k => (k, upd n l k (s.of k))).map Prod.fst := by
    rw [List.map_map]
    show _ = (rise _).map id
    rw [List.map_id]
    refine h1.ext (rising_rise _) fun k => ?_
    rw [fold_keys, mem_rise, List.mem_append]
  refine assoc_ext hk h1.nodup fun k => ?_
  by_cases h : k ∈ rise (s.kc.map Prod.fst ++ l.map Wr.key)
  · rw [look_map h]
    rw [mem_rise, List.mem_append] at h
    exact fold_at hr hn k h
  · have h2 : look k ((rise (s.kc.map Prod.fst ++ l.map Wr.key)).map fun k => (k, upd n l k (s.of k))) = none := by
      rw [look_none_iff, ← hk, fold_keys]
      rwa [mem_rise, List.mem_append] at h
    rw [h2, look_none_iff, hk]
    exact look_none_iff.1 h2
/-- Stores are fine, and stay so. -/
theorem upd_ok {n : Int} {l : List Wr} {k : ByteArray} {c : Chn} (h : c.Ok) (hn : c.last < n) : (upd n l k c).Ok := by
  unfold upd
  split
  · exact Chn.ok_put h hn _ _
  · exact h
theorem fold_oks {n : Int} {kc : List (ByteArray × Chn)} (hr : Rising (kc.map Prod.fst)) (hok : ∀ p ∈ kc, p.2.Ok) (hlt : ∀ p ∈ kc, p.2.last < n) (h0 : 0 < n) {l : List Wr} (hn : (l.map Wr.key).Nodup) : ∀ p ∈ l.foldl (Sto.put1 n) kc, p.2.Ok := by
  intro p hp
  have h1 := fold_rising (n := n) hr l
  have h2 := look_of_mem (k := p.1) (v := p.2) h1.nodup hp
  rw [fold_at hr hn p.1 ((fold_keys l p.1).1 (List.mem_map.2 ⟨p, hp, rfl⟩))] at h2
  injection h2 with h2
  rw [← h2]
  cases hl : look p.1 kc with
  | none => exact upd_ok ⟨List.Pairwise.nil, fun v hv => by cases hv⟩ h0
  | some c => exact upd_ok (hok _ (look_mem hl)) (hlt _ (look_mem hl))
end Go.Proofs.Ytkcppngopdiljaa
/- Layer 6 (record): a batch of writes by numbers: plain functions. -/
set_option linter.unusedVariables false
set_option linter.unusedSimpArgs false
namespace Go.Proofs.Ytkcppngopdiljaa

/-- A write by numbers. -/
structure Actn where
  key : UInt8
  row : UInt8
  gone : Bool
def tAct : Ty Actn := Ty.iso (Ty.pair Ty.u8 (Ty.pair Ty.u8 Ty.bool)) fun x => (x.key, x.row, x.gone)
def kq (q : UInt8) : ByteArray := ⟨#[107, q]⟩
def actKey (a : Actn) : ByteArray := kq (a.key % 12)
/-- What the acts say of a key so far: the last one counts. -/
def accW (k : ByteArray) (l : List Actn) : Wr := l.foldl (fun w a => if actKey a = k then ⟨k, [a.row], a.gone⟩ else w) ⟨k, [], false⟩
def finW (x : Wr) : Wr := if x.gone = true then ⟨x.key, [], true⟩ else x
def batchW (l : List Actn) : List Wr := (rise (l.map actKey)).map fun k => finW (accW k l)

theorem accW_snoc (k : ByteArray) (l : List Actn) (a : Actn) : accW k (l ++ [a]) = if actKey a = k then ⟨k, [a.row], a.gone⟩ else accW k l := by
  unfold accW; rw [List.foldl_append]; rfl
theorem accW_key (k : ByteArray) (l : List Actn) : (accW k l).key = k ∧ (accW k l).row.length ≤ 1 := by
  unfold accW
  have : ∀ (w : Wr), w.key = k → w.row.length ≤ 1 → (l.foldl (fun w a => if actKey a = k then ⟨k, [a.row], a.gone⟩ else w) w).key = k ∧ (l.foldl (fun w a => if actKey a = k then ⟨k, [a.row], a.gone⟩ else w) w).row.length ≤ 1 := by
    induction l with
    | nil => exact fun w h1 h2 => ⟨h1, h2⟩
    | cons a l ih =>
      intro w h1 h2
      rw [List.foldl_cons]
      split
      · exact ih _ rfl (Nat.le_refl _)
      · exact ih _ h1 h2
  exact this _ rfl (Nat.zero_le _)
theorem finW_key (x : Wr) : (finW x).key = x.key := by unfold finW; split <;> rfl
theorem finW_row (x : Wr) (h : x.row.length ≤ 1) : (finW x).row.length ≤ 1 ∧ ((finW x).gone = true → (finW x).row.length = 0) := by
  unfold finW
  split
  · exact ⟨Nat.zero_le _, fun _ => rfl⟩
  · rename_i hg
    exact ⟨h, fun e => absurd e hg⟩
theorem batchW_keys (l : List Actn) : (batchW l).map Wr.key = rise (l.map actKey) := by
  unfold batchW
  rw [List.map_map]
  have : ∀ k ∈ rise (l.map actKey), (Wr.key ∘ fun k => finW (accW k l)) k = k := fun k _ => by
    show (finW _).key = k
    rw [finW_key]; exact (accW_key k l).1
  rw [List.map_congr_left this, List.map_id']
theorem batchW_len (l : List Actn) : (batchW l).length ≤ l.length := by
  have := rise_length (l.map actKey)
  unfold batchW
  rw [List.length_map]; simpa using this
theorem batchW_mem {l : List Actn} {x : Wr} (h : x ∈ batchW l) : x.key.size = 2 ∧ x.row.length ≤ 1 ∧ (x.gone = true → x.row.length = 0) := by
  have hk : x.key ∈ rise (l.map actKey) := by rw [← batchW_keys]; exact List.mem_map_of_mem h
  rw [mem_rise, List.mem_map] at hk
  obtain ⟨a, _, ha⟩ := hk
  unfold batchW at h
  obtain ⟨k, _, rfl⟩ := List.mem_map.1 h
  have := finW_row _ (accW_key k l).2
  exact ⟨by rw [← ha]; rfl, this.1, this.2⟩
theorem allFit_of {last : ByteArray} {l : List Wr} (hm : ∀ x ∈ l, x.key.size = 2 ∧ x.row.length ≤ 1 ∧ (x.gone = true → x.row.length = 0)) (hr : Rising (l.map Wr.key)) (hl : ∀ x ∈ l, kl last x.key = true) : allFit last l = true := by
  induction l generalizing last with
  | nil => rfl
  | cons x l ih =>
    obtain ⟨h1, h2, h3⟩ := hm x (List.mem_cons_self ..)
    rw [List.map_cons] at hr
    obtain ⟨h4, h5⟩ := List.pairwise_cons.1 hr
    have h6 : fits x last = true := by
      unfold fits
      rw [hl x (List.mem_cons_self ..), h1]
      cases hg : x.gone with
      | false => simp; omega
      | true => have := h3 hg; simp [this]
    simp only [allFit, h6, Bool.true_and]
    exact ih (fun y hy => hm y (List.mem_cons_of_mem _ hy)) h5 (fun y hy => h4 _ (List.mem_map_of_mem hy))
theorem kl_nil2 {k : ByteArray} (h : k.size = 2) : kl ⟨#[]⟩ k = true := by
  rw [kl_eq]
  refine decide_eq_true ?_
  rw [toList_data, toList_data]
  have : k.data.toList ≠ [] := fun e => by
    have : k.data.size = 2 := h
    rw [← Array.length_toList, e] at this
    cases this
  cases hk : k.data.toList with
  | nil => exact absurd hk this
  | cons a l => exact List.nil_lt_cons a l
theorem batchW_fit (l : List Actn) : allFit ⟨#[]⟩ (batchW l) = true :=
  allFit_of (fun x hx => batchW_mem hx) (by rw [batchW_keys]; exact rising_rise _) (fun x hx => kl_nil2 (batchW_mem hx).1)
theorem batchW_pos {l : List Actn} (h : l ≠ []) : 1 ≤ (batchW l).length := by
  cases l with
  | nil => exact absurd rfl h
  | cons a l =>
    have : actKey a ∈ (batchW (a :: l)).map Wr.key := by rw [batchW_keys, mem_rise]; simp
    have := List.length_pos_of_mem this
    rwa [List.length_map] at this
theorem batchW_right {n : Int} {l : List Actn} (hn : 1 ≤ n) (h : l ≠ []) (hl : l.length ≤ 64) : right n (batchW l) = true := by
  unfold right
  have h1 := batchW_pos h
  have h2 := batchW_len l
  rw [batchW_fit, decide_eq_true hn, decide_eq_true h1, decide_eq_true (show (batchW l).length ≤ 64 by omega)]
  rfl

theorem Sto.Small.mono {s : Sto} {m m' : Nat} (h : s.Small m) (k : m ≤ m') : s.Small m' :=
  ⟨h.now0, by have := h.now1; omega, by have := h.keys; omega, h.ksz, fun p hp => by have := h.chains p hp; exact ⟨by omega, this.2⟩⟩
theorem Chn.empty_ok : Chn.Ok Chn.empty := ⟨List.Pairwise.nil, fun v hv => by cases hv⟩
end Go.Proofs.Ytkcppngopdiljaa
/- What lists of acts read as. -/
set_option linter.unusedVariables false
set_option linter.unusedSimpArgs false
namespace Go.Proofs.Ytkcppngopdiljaa
open Go.RowKit Go.Deep

theorem opens_act : Opens Try.prog tAct 83 := by
  have o5 : Opens Try.prog Ty.u8 5 := Opens.u8 (by kernel_rfl) Try.underlying5
  have o4 : Opens Try.prog Ty.bool 4 := Opens.bool (by kernel_rfl) Try.underlying4
  have hc : Try.prog.cellsOf 83 = 3 := by kernel_rfl
  refine ⟨hc, fun H enc w base spare held fuel cs x h => ?_⟩
  obtain ⟨y0, y1, y2, n, rfl, hl, h0, h1, h2⟩ := trod_struct3 Try.underlying83 h
  rw [hc] at hl
  simp only [o5.1, o4.1] at h0 h1 h2
  match cs, hl with
  | [c0, c1, c2], _ =>
    obtain ⟨v0, e0⟩ := o5.2 _ _ _ _ _ _ _ _ _ h0
    obtain ⟨v1, e1⟩ := o5.2 _ _ _ _ _ _ _ _ _ h1
    obtain ⟨v2, e2⟩ := o4.2 _ _ _ _ _ _ _ _ _ h2
    exact ⟨⟨v0, v1, v2⟩, [c0], [c1, c2], rfl, e0, [c1], [c2], rfl, e1, e2⟩
theorem opens_acts : Opens Try.prog (Ty.slice tAct) 32 := Opens.slice opens_act (by kernel_rfl) Try.underlying32
theorem opens_acts2 : Opens Try.prog (Ty.slice (Ty.slice tAct)) 50 := Opens.slice opens_acts (by kernel_rfl) Try.underlying50
theorem opens_bytes : Opens Try.prog (Ty.slice Ty.u8) 27 := Opens.slice (Opens.u8 (by kernel_rfl) Try.underlying5) (by kernel_rfl) Try.underlying27
end Go.Proofs.Ytkcppngopdiljaa
/- Layer 14 (tx): writes by keys, rising: plain functions. -/
set_option linter.unusedVariables false
set_option linter.unusedSimpArgs false
namespace Go.Proofs.Ytkcppngopdiljaa

/-- A write in its place. -/
def wput (x : Wr) : List Wr → List Wr
  | [] => [x]
  | y :: l => if kl x.key y.key then x :: y :: l else if x.key = y.key then x :: l else y :: wput x l
def wfind (k : ByteArray) (l : List Wr) : Option Wr := l.find? fun x => decide (x.key = k)
/-- What a transaction has behind a write; the error. -/
def wwrite (l : List Wr) (x : Wr) : List Wr × Int := if (wfind x.key l).isNone = true ∧ 20 ≤ l.length then (l, 1) else (wput x l, 0)

theorem wfind_none {k : ByteArray} {l : List Wr} : wfind k l = none ↔ k ∉ l.map Wr.key := by
  unfold wfind
  rw [List.find?_eq_none]
  simp only [decide_eq_true_eq, List.mem_map, not_exists, not_and]
theorem wfind_some {k : ByteArray} {l : List Wr} {x : Wr} (h : wfind k l = some x) : x ∈ l ∧ x.key = k := by
  unfold wfind at h
  exact ⟨List.mem_of_find?_eq_some h, by simpa using List.find?_some h⟩
theorem wput_cons (x y : Wr) (l : List Wr) : wput x (y :: l) = if kl x.key y.key then x :: y :: l else if x.key = y.key then x :: l else y :: wput x l := rfl
theorem wput_keys (x : Wr) (l : List Wr) : (wput x l).map Wr.key = ins x.key (l.map Wr.key) := by
  induction l with
  | nil => rfl
  | cons y l ih =>
    unfold wput
    simp only [List.map_cons, ins]
    split
    · rfl
    · split
      · rename_i h; rw [List.map_cons, h]
      · rw [List.map_cons, ih]
theorem wput_rising {x : Wr} {l : List Wr} (h : Rising (l.map Wr.key)) : Rising ((wput x l).map Wr.key) := by rw [wput_keys]; exact rising_ins h
theorem wfind_wput {x : Wr} {l : List Wr} (h : Rising (l.map Wr.key)) (k : ByteArray) : wfind k (wput x l) = if x.key = k then some x else wfind k l := by
  induction l with
  | nil => unfold wput wfind; by_cases e : x.key = k <;> simp [e]
  | cons y l ih =>
    obtain ⟨h1, h2⟩ := List.pairwise_cons.1 h
    unfold wput
    by_cases hk : kl x.key y.key = true
    · rw [if_pos hk]; unfold wfind
      by_cases e : x.key = k <;> simp [e]
    · rw [if_neg hk]
      by_cases he : x.key = y.key
      · rw [if_pos he]; unfold wfind
        by_cases e : x.key = k
        · simp [e]
        · have e2 : ¬ y.key = k := fun h => e (he.trans h)
          simp [e, e2]
      · rw [if_neg he]
        have := ih h2
        unfold wfind at this ⊢
        by_cases e : y.key = k
        · have e2 : ¬ x.key = k := fun h => he (h.trans e.symm)
          simp [e, e2]
        · simp only [List.find?_cons, decide_eq_false e]
          exact this
theorem wput_length {x : Wr} {l : List Wr} (hr : Rising (l.map Wr.key)) : (wput x l).length = if (wfind x.key l).isNone = true then l.length + 1 else l.length := by
  induction l with
  | nil => rfl
  | cons y l ih =>
    obtain ⟨h1, h2⟩ := List.pairwise_cons.1 hr
    unfold wput
    by_cases hk : kl x.key y.key = true
    · have hn : wfind x.key (y :: l) = none := wfind_none.2 fun hm => by
        rcases List.mem_cons.1 hm with e | hm
        · exact kl_ne hk e
        · exact kl_ne (kl_trans hk (h1 _ hm)) rfl
      rw [if_pos hk, hn]; rfl
    · rw [if_neg hk]
      by_cases he : x.key = y.key
      · have hs : wfind x.key (y :: l) = some y := by unfold wfind; simp [he]
        rw [if_pos he, hs]; rfl
      · have hs : wfind x.key (y :: l) = wfind x.key l := by unfold wfind; rw [List.find?_cons_of_neg (by simpa using fun e : y.key = x.key => he e.symm)]
        rw [if_neg he, hs, List.length_cons, ih h2]
        split <;> rfl
theorem mem_wput {x y : Wr} {l : List Wr} (h : y ∈ wput x l) : y = x ∨ y ∈ l := by
  induction l with
  | nil => left; simpa [wput] using h
  | cons z l ih =>
    unfold wput at h
    split at h
    · rcases List.mem_cons.1 h with h | h
      · exact .inl h
      · exact .inr h
    · split at h
      · rcases List.mem_cons.1 h with h | h
        · exact .inl h
        · exact .inr (List.mem_cons_of_mem _ h)
      · rcases List.mem_cons.1 h with h | h
        · exact .inr (by rw [h]; exact List.mem_cons_self ..)
        · exact (ih h).imp id (List.mem_cons_of_mem _)

/-! ### The document's way: one after the other -/
/-- So many of the writes are ahead of the new one. -/
def wdone (x : Wr) (l : List Wr) : Bool := l.any fun y => !kl y.key x.key
/-- What the loop has, behind so many writes. -/
def wout (x : Wr) (l : List Wr) : List Wr := if wdone x l = true then wput x l else l
theorem wdone_snoc (x : Wr) (l : List Wr) (y : Wr) : wdone x (l ++ [y]) = (wdone x l || !kl y.key x.key) := by unfold wdone; rw [List.any_append]; simp
theorem wput_all {x : Wr} {l : List Wr} (h : wdone x l = false) : wput x l = l ++ [x] := by
  induction l with
  | nil => rfl
  | cons y l ih =>
    unfold wdone at h
    simp only [List.any_cons, Bool.or_eq_false_iff, Bool.not_eq_false'] at h
    unfold wput
    rw [if_neg (by rw [kl_asymm h.1]; simp), if_neg (fun e => by have := kl_ne h.1; exact this e.symm), ih h.2]
    rfl
/-- Behind one that isn't ahead of the new one, all others go on as they are. -/
theorem wput_snoc {x : Wr} {l : List Wr} {y : Wr} (h : wdone x l = true) (hr : Rising ((l ++ [y]).map Wr.key)) : wput x (l ++ [y]) = wput x l ++ [y] ∧ x.key ≠ y.key := by
  induction l with
  | nil => cases h
  | cons z l ih =>
    rw [List.cons_append, List.map_cons] at hr
    obtain ⟨h1, h2⟩ := List.pairwise_cons.1 hr
    have hzy : kl z.key y.key = true := h1 _ (List.mem_map_of_mem (by simp))
    unfold wdone at h
    simp only [List.any_cons, Bool.or_eq_true, Bool.not_eq_true'] at h
    by_cases hz : kl z.key x.key = false
    · have hle : kl x.key z.key = true ∨ x.key = z.key := by
        cases hx : kl x.key z.key with
        | true => exact .inl rfl
        | false => exact .inr (kl_tri hx hz)
      refine ⟨?_, ?_⟩
      · rw [List.cons_append, wput_cons, wput_cons]
        rcases hle with hle | hle
        · rw [if_pos hle, if_pos hle]; rfl
        · have hk : ¬ kl x.key z.key = true := by rw [hle, kl_irrefl]; simp
          rw [if_neg hk, if_neg hk, if_pos hle, if_pos hle]; rfl
      · rcases hle with hle | hle
        · exact kl_ne (kl_trans hle hzy)
        · rw [hle]; exact kl_ne hzy
    · have hz : kl z.key x.key = true := by simpa using hz
      have hd : wdone x l = true := by
        rcases h with h | h
        · rw [hz] at h; cases h
        · unfold wdone; simpa using h
      obtain ⟨h3, h4⟩ := ih hd h2
      refine ⟨?_, h4⟩
      rw [List.cons_append, wput_cons, wput_cons]
      have hxz : kl x.key z.key = false := kl_asymm hz
      have hne : ¬ x.key = z.key := fun e => kl_ne hz e.symm
      rw [if_neg (by rw [hxz]; simp), if_neg hne, if_neg (by rw [hxz]; simp), if_neg hne, h3]
      rfl
theorem wput_pre {x : Wr} {l m : List Wr} (h : wdone x l = false) : wput x (l ++ m) = l ++ wput x m := by
  induction l with
  | nil => rfl
  | cons y l ih =>
    unfold wdone at h
    simp only [List.any_cons, Bool.or_eq_false_iff, Bool.not_eq_false'] at h
    rw [List.cons_append, wput, if_neg (by rw [kl_asymm h.1]; simp), if_neg (fun e => by have := kl_ne h.1; exact this e.symm), ih h.2]
    rfl
/-- One step. -/
theorem wout_step {x : Wr} {l : List Wr} {y : Wr} (hr : Rising ((l ++ [y]).map Wr.key)) :
    wout x (l ++ [y]) = (if wdone x l = false ∧ kl y.key x.key = false then wout x l ++ [x] else wout x l) ++ (if y.key = x.key then [] else [y]) := by
  unfold wout
  rw [wdone_snoc]
  cases hd : wdone x l with
  | true =>
    obtain ⟨h1, h2⟩ := wput_snoc hd hr
    have h3 : ¬ y.key = x.key := fun e => h2 e.symm
    simp [h1, h3]
  | false =>
    cases hk : kl y.key x.key with
    | true =>
      have := kl_ne hk
      simp [this]
    | false =>
      have hp := wput_pre (m := [y]) hd
      simp only [Bool.false_or, Bool.not_false, if_true, true_and, and_self, Bool.false_eq_true, if_false]
      rw [hp]
      unfold wput wput
      by_cases h1 : kl x.key y.key = true
      · rw [if_pos h1, if_neg (fun e => kl_ne h1 e.symm)]; simp
      · have e : x.key = y.key := kl_tri (by simpa using h1) hk
        rw [if_neg h1, if_pos e, if_pos e.symm]; simp
theorem wout_end {x : Wr} {l : List Wr} : (if wdone x l = true then wout x l else wout x l ++ [x]) = wput x l := by
  unfold wout
  cases hd : wdone x l with
  | true => rfl
  | false => simp [wput_all hd]
end Go.Proofs.Ytkcppngopdiljaa
