/- Texts of this claim, one behind the other: Spec13, Spec14, RefT. -/
import Derived.Test.YtlmhphejgahfbaaGreatDoorMrowledgernil4
import Derived.Test.YtlmhphejgahfbaaGreatDoorProg
import Derived.Test.YtlmhphejgahfbaaGreatDoorMrowledgernil3
import Derived.Test.YtlmhphejgahfbaaGreatDoorMrowledgernil2
import Derived.Deep.QuietTactic
import Derived.BigQuiet
import Derived.Deep.RegionHeld3
import Derived.Deep.RegionLaw
/- Layer 13 (store): all keys' versions, as plain functions. -/
set_option linter.unusedVariables false
set_option linter.unusedSimpArgs false
namespace Go.Proofs.YtlmhphejgahfbaaGreatDoor

/-- A key's value in a list that rises by its keys. -/
def slay {β : Type} (k : ByteArray) (v : β) : List (ByteArray × β) → List (ByteArray × β)
  | [] => [(k, v)]
  | p :: l => if kl k p.1 then (k, v) :: p :: l else if k = p.1 then (k, v) :: l else p :: slay k v l
section
variable {β : Type} {k : ByteArray} {v : β} {l : List (ByteArray × β)}
theorem slay_keys (k : ByteArray) (v : β) (l : List (ByteArray × β)) : (slay k v l).map Prod.fst = ins k (l.map Prod.fst) := by
  induction l with
  | nil => rfl
  | cons p l ih =>
    unfold slay
    simp only [List.map_cons, ins]
    split
    · rfl
    · split
      · rename_i h; subst h; rfl
      · rw [← ih]; rfl
theorem slay_rising (h : Rising (l.map Prod.fst)) : Rising ((slay k v l).map Prod.fst) := by rw [slay_keys]; exact rising_ins h
theorem look_slay (h : Rising (l.map Prod.fst)) (k' : ByteArray) : look k' (slay k v l) = if k = k' then some v else look k' l := by
  induction l with
  | nil => unfold slay look; split <;> simp [look]
  | cons p l ih =>
    obtain ⟨h1, h2⟩ := List.pairwise_cons.1 h
    unfold slay
    by_cases hk : kl k p.1 = true
    · rw [if_pos hk]; simp only [look]
    · rw [if_neg hk]
      by_cases he : k = p.1
      · rw [if_pos he]
        subst he
        simp only [look]
        split <;> rfl
      · rw [if_neg he]
        simp only [look, ih h2]
        by_cases h3 : p.1 = k'
        · rw [if_pos h3, if_neg (fun e => he (e.trans h3.symm)), if_pos h3]
        · rw [if_neg h3, if_neg h3]
theorem slay_length : (slay k v l).length ≤ l.length + 1 := by
  induction l with
  | nil => simp [slay]
  | cons p l ih =>
    unfold slay
    split
    · simp
    · split
      · simp
      · simp only [List.length_cons]; omega
theorem mem_slay (h : Rising (l.map Prod.fst)) (p : ByteArray × β) (hp : p ∈ slay k v l) : p = (k, v) ∨ p ∈ l := by
  have h1 := look_of_mem (slay_rising h).nodup (show (p.1, p.2) ∈ slay k v l from hp)
  rw [look_slay h] at h1
  split at h1
  · rename_i e; injection h1 with h1; left; rw [e, h1]
  · exact .inr (look_mem h1)
end

/-- Keys, rising, and their chains; how many batches came. -/
structure Sto where
  kc : List (ByteArray × Chn)
  now : Int
namespace Sto
def empty : Sto := ⟨[], 0⟩
def of (s : Sto) (k : ByteArray) : Chn := (look k s.kc).getD Chn.empty
/-- One write of the batch n. -/
def put1 (n : Int) (kc : List (ByteArray × Chn)) (x : Wr) : List (ByteArray × Chn) := slay x.key (((look x.key kc).getD Chn.empty).put n x.row x.gone) kc
def apply (s : Sto) (n : Int) (l : List Wr) : Sto × Int :=
  if right n l = false then (s, 2) else if n = s.now + 1 then (⟨l.foldl (put1 n) s.kc, n⟩, 0) else (s, 1)
def get (s : Sto) (a : Int) (k : ByteArray) : Option Bs := (s.of k).get a
def last (s : Sto) (k : ByteArray) : Int := (s.of k).last
/-- What is seen at a number, from a key on, and below another one. -/
def all (s : Sto) (a : Int) (lo hi : ByteArray) : List (ByteArray × Bs) :=
  s.kc.filterMap fun p => match p.2.get a with
    | some row => if kl p.1 lo = false ∧ (hi.size = 0 ∨ kl p.1 hi = true) then some (p.1, row) else none
    | none => none
def scan (s : Sto) (a : Int) (lo hi : ByteArray) (most : Int) : List (ByteArray × Bs) := (s.all a lo hi).take most.toNat
def cut (s : Sto) (a : Int) : Nat := (s.kc.map fun p => p.2.cut a).sum
def trim (s : Sto) (a : Int) : Sto := ⟨s.kc.map fun p => (p.1, p.2.trim a), s.now⟩
def len (s : Sto) : Nat := (s.kc.map fun p => p.2.l.length).sum
/-- How much there is, at most: m numbers. -/
structure Small (s : Sto) (m : Nat) : Prop where
  now0 : 0 ≤ s.now
  now1 : s.now ≤ m
  keys : s.kc.length ≤ m
  ksz : ∀ p ∈ s.kc, p.1.size ≤ 4000
  chains : ∀ p ∈ s.kc, p.2.l.length ≤ m ∧ p.2.last ≤ s.now ∧ ∀ v ∈ p.2.l, v.row.length ≤ 4000
end Sto

/-! ### What a scan selects -/
abbrev Item := ByteArray × Bs
def tItem : Ty Item := Ty.pair Ty.str (Ty.slice Ty.u8)
theorem tItem_open {w : World} {F : Nat → Prop} {x : Item} {cs : List Value} (h : tItem.K w F x cs) : ∃ A c, cs = [.string x.1, .slice A x.2.length c] ∧ x.2.length ≤ c ∧ Rd Ty.u8 w F A x.2 := by
  obtain ⟨_, _, rfl, rfl, A, c, rfl, h1, h2⟩ := h
  exact ⟨A, c, rfl, h1, h2⟩
theorem tItem_mk {w : World} {F : Nat → Prop} {a : ByteArray} {r : Bs} {A : Option Addr} {c : Nat} (h1 : r.length ≤ c) (h2 : Rd Ty.u8 w F A r) : tItem.K w F (a, r) [.string a, .slice A r.length c] :=
  ⟨[_], [_], rfl, rfl, A, c, rfl, h1, h2⟩
namespace Sto
def sel (a : Int) (lo hi : ByteArray) (p : ByteArray × Chn) : Option Item :=
  match p.2.get a with
  | some row => if kl p.1 lo = false ∧ (hi.size = 0 ∨ kl p.1 hi = true) then some (p.1, row) else none
  | none => none
theorem all_eq (s : Sto) (a : Int) (lo hi : ByteArray) : s.all a lo hi = s.kc.filterMap (sel a lo hi) := rfl
theorem sel_none {a : Int} {lo hi : ByteArray} {p : ByteArray × Chn} (h0 : hi.size ≠ 0) (h : kl p.1 hi = false) : sel a lo hi p = none := by
  unfold sel
  split
  · rw [if_neg (by rw [h]; simp [h0])]
  · rfl
theorem scan_stop1 {s : Sto} {a : Int} {lo hi : ByteArray} {most : Int} {k : Nat} (h : most ≤ (((s.kc.take k).filterMap (sel a lo hi)).length : Int)) (h' : (((s.kc.take k).filterMap (sel a lo hi)).length : Int) ≤ max most 0) :
    s.scan a lo hi most = (s.kc.take k).filterMap (sel a lo hi) := by
  have e : most.toNat = ((s.kc.take k).filterMap (sel a lo hi)).length := by omega
  unfold scan
  have h2 := List.filterMap_append (f := sel a lo hi) (l := s.kc.take k) (l' := s.kc.drop k)
  rw [List.take_append_drop] at h2
  rw [all_eq, e, h2]
  exact List.take_left
theorem scan_stop2 {s : Sto} {a : Int} {lo hi : ByteArray} {most : Int} {k : Nat} (hr : Rising (s.kc.map Prod.fst)) (hk : k < s.kc.length) (h0 : hi.size ≠ 0) (hh : kl s.kc[k].1 hi = false) (h' : (((s.kc.take k).filterMap (sel a lo hi)).length : Int) ≤ max most 0) :
    s.scan a lo hi most = (s.kc.take k).filterMap (sel a lo hi) := by
  have e : s.kc.filterMap (sel a lo hi) = (s.kc.take k).filterMap (sel a lo hi) := by
    conv => lhs; rw [← List.take_append_drop k s.kc]
    rw [List.filterMap_append]
    have : (s.kc.drop k).filterMap (sel a lo hi) = [] := by
      rw [List.filterMap_eq_nil_iff]
      intro p hp
      refine sel_none h0 ?_
      obtain ⟨j, hj, rfl⟩ := List.mem_drop_iff_getElem.1 hp
      rcases Nat.eq_zero_or_pos j with rfl | hj0
      · exact hh
      · have h1 := List.pairwise_iff_getElem.1 (List.pairwise_map.1 hr) k (k + j) hk (by omega) (by omega)
        cases h2 : kl (s.kc[k + j]'(by omega)).1 hi with
        | false => rfl
        | true => have := kl_trans h1 h2; rw [hh] at this; cases this
    rw [this, List.append_nil]
  unfold scan
  rw [all_eq, e]
  exact List.take_of_length_le (by omega)
theorem scan_end {s : Sto} {a : Int} {lo hi : ByteArray} {most : Int} (h' : ((s.kc.filterMap (sel a lo hi)).length : Int) ≤ max most 0) : s.scan a lo hi most = s.kc.filterMap (sel a lo hi) := by
  unfold scan
  rw [all_eq]
  exact List.take_of_length_le (by omega)
theorem sel_step {s : Sto} {a : Int} {lo hi : ByteArray} {k : Nat} (hk : k < s.kc.length) : (s.kc.take (k + 1)).filterMap (sel a lo hi) = (s.kc.take k).filterMap (sel a lo hi) ++ (sel a lo hi s.kc[k]).toList := by
  rw [List.take_succ_eq_append_getElem hk, List.filterMap_append]
  cases h : sel a lo hi s.kc[k] <;> simp [h]
end Sto
end Go.Proofs.YtlmhphejgahfbaaGreatDoor
/- Layer 14 (tx): writes by keys, rising: plain functions. -/
set_option linter.unusedVariables false
set_option linter.unusedSimpArgs false
namespace Go.Proofs.YtlmhphejgahfbaaGreatDoor

/-- A write in its place. -/
def wput (x : Wr) : List Wr → List Wr
  | [] => [x]
  | y :: l => if kl x.key y.key then x :: y :: l else if x.key = y.key then x :: l else y :: wput x l
def wfind (k : ByteArray) (l : List Wr) : Option Wr := l.find? fun x => decide (x.key = k)
/-- What a transaction has behind a write; the error. -/
def wwrite (l : List Wr) (x : Wr) : List Wr × Int := if (wfind x.key l).isNone = true ∧ 20 ≤ l.length then (l, 1) else (wput x l, 0)

theorem wfind_none {k : ByteArray} {l : List Wr} : wfind k l = none ↔ k ∉ l.map Wr.key := by
  unfold wfind
  rw [List.find?_eq_none]
  simp only [decide_eq_true_eq, List.mem_map, not_exists, not_and]
theorem wfind_some {k : ByteArray} {l : List Wr} {x : Wr} (h : wfind k l = some x) : x ∈ l ∧ x.key = k := by
  unfold wfind at h
  exact ⟨List.mem_of_find?_eq_some h, by simpa using List.find?_some h⟩
theorem wput_cons (x y : Wr) (l : List Wr) : wput x (y :: l) = if kl x.key y.key then x :: y :: l else if x.key = y.key then x :: l else y :: wput x l := rfl
theorem wput_keys (x : Wr) (l : List Wr) : (wput x l).map Wr.key = ins x.key (l.map Wr.key) := by
  induction l with
  | nil => rfl
  | cons y l ih =>
    unfold wput
    simp only [List.map_cons, ins]
    split
    · rfl
    · split
      · rename_i h; rw [List.map_cons, h]
      · rw [List.map_cons, ih]
theorem wput_rising {x : Wr} {l : List Wr} (h : Rising (l.map Wr.key)) : Rising ((wput x l).map Wr.key) := by rw [wput_keys]; exact rising_ins h
theorem wfind_wput {x : Wr} {l : List Wr} (h : Rising (l.map Wr.key)) (k : ByteArray) : wfind k (wput x l) = if x.key = k then some x else wfind k l := by
  induction l with
  | nil => unfold wput wfind; by_cases e : x.key = k <;> simp [e]
  | cons y l ih =>
    obtain ⟨h1, h2⟩ := List.pairwise_cons.1 h
    unfold wput
    by_cases hk : kl x.key y.key = true
    · rw [if_pos hk]; unfold wfind
      by_cases e : x.key = k <;> simp [e]
    · rw [if_neg hk]
      by_cases he : x.key = y.key
      · rw [if_pos he]; unfold wfind
        by_cases e : x.key = k
        · simp [e]
        · have e2 : ¬ y.key = k := fun h => e (he.trans h)
          simp [e, e2]
      · rw [if_neg he]
        have := ih h2
        unfold wfind at this ⊢
        by_cases e : y.key = k
        · have e2 : ¬ x.key = k := fun h => he (h.trans e.symm)
          simp [e, e2]
        · simp only [List.find?_cons, decide_eq_false e]
          exact this
theorem wput_length {x : Wr} {l : List Wr} (hr : Rising (l.map Wr.key)) : (wput x l).length = if (wfind x.key l).isNone = true then l.length + 1 else l.length := by
  induction l with
  | nil => rfl
  | cons y l ih =>
    obtain ⟨h1, h2⟩ := List.pairwise_cons.1 hr
    unfold wput
    by_cases hk : kl x.key y.key = true
    · have hn : wfind x.key (y :: l) = none := wfind_none.2 fun hm => by
        rcases List.mem_cons.1 hm with e | hm
        · exact kl_ne hk e
        · exact kl_ne (kl_trans hk (h1 _ hm)) rfl
      rw [if_pos hk, hn]; rfl
    · rw [if_neg hk]
      by_cases he : x.key = y.key
      · have hs : wfind x.key (y :: l) = some y := by unfold wfind; simp [he]
        rw [if_pos he, hs]; rfl
      · have hs : wfind x.key (y :: l) = wfind x.key l := by unfold wfind; rw [List.find?_cons_of_neg (by simpa using fun e : y.key = x.key => he e.symm)]
        rw [if_neg he, hs, List.length_cons, ih h2]
        split <;> rfl
theorem mem_wput {x y : Wr} {l : List Wr} (h : y ∈ wput x l) : y = x ∨ y ∈ l := by
  induction l with
  | nil => left; simpa [wput] using h
  | cons z l ih =>
    unfold wput at h
    split at h
    · rcases List.mem_cons.1 h with h | h
      · exact .inl h
      · exact .inr h
    · split at h
      · rcases List.mem_cons.1 h with h | h
        · exact .inl h
        · exact .inr (List.mem_cons_of_mem _ h)
      · rcases List.mem_cons.1 h with h | h
        · exact .inr (by rw [h]; exact List.mem_cons_self ..)
        · exact (ih h).imp id (List.mem_cons_of_mem _)

/-! ### The document's way: one after the other -/
/-- So many of the writes are ahead of the new one. -/
def wdone (x : Wr) (l : List Wr) : Bool := l.any fun y => !kl y.key x.key
/-- What the loop has, behind so many writes. -/
def wout (x : Wr) (l : List Wr) : List Wr := if wdone x l = true then wput x l else l
theorem wdone_snoc (x : Wr) (l : List Wr) (y : Wr) : wdone x (l ++ [y]) = (wdone x l || !kl y.key x.key) := by unfold wdone; rw [List.any_append]; simp
theorem wput_all {x : Wr} {l : List Wr} (h : wdone x l = false) : wput x l = l ++ [x] := by
  induction l with
  | nil => rfl
  | cons y l ih =>
    unfold wdone at h
    simp only [List.any_cons, Bool.or_eq_false_iff, Bool.not_eq_false'] at h
    unfold wput
    rw [if_neg (by rw [kl_asymm h.1]; simp), if_neg (fun e => by have := kl_ne h.1; exact this e.symm), ih h.2]
    rfl
/-- Behind one that isn't ahead of the new one, all others go on as they are. -/
theorem wput_snoc {x : Wr} {l : List Wr} {y : Wr} (h : wdone x l = true) (hr : Rising ((l ++ [y]).map Wr.key)) : wput x (l ++ [y]) = wput x l ++ [y] ∧ x.key ≠ y.key := by
  induction l with
  | nil => cases h
  | cons z l ih =>
    rw [List.cons_append, List.map_cons] at hr
    obtain ⟨h1, h2⟩ := List.pairwise_cons.1 hr
    have hzy : kl z.key y.key = true := h1 _ (List.mem_map_of_mem (by simp))
    unfold wdone at h
    simp only [List.any_cons, Bool.or_eq_true, Bool.not_eq_true'] at h
    by_cases hz : kl z.key x.key = false
    · have hle : kl x.key z.key = true ∨ x.key = z.key := by
        cases hx : kl x.key z.key with
        | true => exact .inl rfl
        | false => exact .inr (kl_tri hx hz)
      refine ⟨?_, ?_⟩
      · rw [List.cons_append, wput_cons, wput_cons]
        rcases hle with hle | hle
        · rw [if_pos hle, if_pos hle]; rfl
        · have hk : ¬ kl x.key z.key = true := by rw [hle, kl_irrefl]; simp
          rw [if_neg hk, if_neg hk, if_pos hle, if_pos hle]; rfl
      · rcases hle with hle | hle
        · exact kl_ne (kl_trans hle hzy)
        · rw [hle]; exact kl_ne hzy
    · have hz : kl z.key x.key = true := by simpa using hz
      have hd : wdone x l = true := by
        rcases h with h | h
        · rw [hz] at h; cases h
        · unfold wdone; simpa using h
      obtain ⟨h3, h4⟩ := ih hd h2
      refine ⟨?_, h4⟩
      rw [List.cons_append, wput_cons, wput_cons]
      have hxz : kl x.key z.key = false := kl_asymm hz
      have hne : ¬ x.key = z.key := fun e => kl_ne hz e.symm
      rw [if_neg (by rw [hxz]; simp), if_neg hne, if_neg (by rw [hxz]; simp), if_neg hne, h3]
      rfl
theorem wput_pre {x : Wr} {l m : List Wr} (h : wdone x l = false) : wput x (l ++ m) = l ++ wput x m := by
  induction l with
  | nil => rfl
  | cons y l ih =>
    unfold wdone at h
    simp only [List.any_cons, Bool.or_eq_false_iff, Bool.not_eq_false'] at h
    rw [List.cons_append, wput, if_neg (by rw [kl_asymm h.1]; simp), if_neg (fun e => by have := kl_ne h.1; exact this e.symm), ih h.2]
    rfl
/-- One step. -/
theorem wout_step {x : Wr} {l : List Wr} {y : Wr} (hr : Rising ((l ++ [y]).map Wr.key)) :
    wout x (l ++ [y]) = (if wdone x l = false ∧ kl y.key x.key = false then wout x l ++ [x] else wout x l) ++ (if y.key = x.key then [] else [y]) := by
  unfold wout
  rw [wdone_snoc]
  cases hd : wdone x l with
  | true =>
    obtain ⟨h1, h2⟩ := wput_snoc hd hr
    have h3 : ¬ y.key = x.key := fun e => h2 e.symm
    simp [h1, h3]
  | false =>
    cases hk : kl y.key x.key with
    | true =>
      have := kl_ne hk
      simp [this]
    | false =>
      have hp := wput_pre (m := [y]) hd
      simp only [Bool.false_or, Bool.not_false, if_true, true_and, and_self, Bool.false_eq_true, if_false]
      rw [hp]
      unfold wput wput
      by_cases h1 : kl x.key y.key = true
      · rw [if_pos h1, if_neg (fun e => kl_ne h1 e.symm)]; simp
      · have e : x.key = y.key := kl_tri (by simpa using h1) hk
        rw [if_neg h1, if_pos e, if_pos e.symm]; simp
theorem wout_end {x : Wr} {l : List Wr} : (if wdone x l = true then wout x l else wout x l ++ [x]) = wput x l := by
  unfold wout
  cases hd : wdone x l with
  | true => rfl
  | false => simp [wput_all hd]
end Go.Proofs.YtlmhphejgahfbaaGreatDoor
/- Texts and bytes: reading, appending, r01.Texts. -/
set_option linter.unusedVariables false
set_option linter.unusedSimpArgs false
namespace Go.Proofs.YtlmhphejgahfbaaGreatDoor
open Go.RowKit

/-- A text of bytes. -/
theorem run_str {w : World} {F : Nat → Prop} {A : Option Addr} {c n : Nat} {xs : Bs} (h : Rd Ty.u8 w F A xs) (hn : n = xs.length) : (convert 46 9 (.slice A n c)).run Tryz.prog w = .ok (.string ⟨xs.toArray⟩) w := by
  subst hn
  cases xs with
  | nil =>
    cases A with
    | none => exact run_convert_bytes_nil (w := w) 46 5 Tryz.underlying46 Tryz.underlying5 0 c 9 Tryz.underlying9
    | some a => exact run_convert_bytes_back w 46 9 5 a c [] Tryz.underlying46 Tryz.underlying5 Tryz.underlying9 (fun j hj => absurd hj (by simp))
  | cons x xs =>
    obtain ⟨a, rfl, _⟩ := u8_at h (i := 0) (by simp)
    refine run_convert_bytes_back w 46 9 5 a c (x :: xs) Tryz.underlying46 Tryz.underlying5 Tryz.underlying9 (fun j hj => ?_)
    obtain ⟨a', e, hc⟩ := u8_at h hj
    obtain rfl : a = a' := Option.some.inj e
    exact hc
theorem row_bytes {w : World} {F : Nat → Prop} : ∀ p : Bs, Row Ty.u8 w F p (p.map fun b => Value.int .u8 (b.toNat : Int))
  | [] => rfl
  | b :: p => ⟨[.int .u8 (b.toNat : Int)], _, rfl, rfl, row_bytes p⟩
theorem info_str : (Tryz.prog.info? 9).map (fun i => (i.zero, i.size, i.bytes)) = some (some (.string ⟨#[]⟩), 1, 16) := by kernel_rfl
/-- Texts of one's own. -/
theorem strs_snoc {N : Nat} {w W : World} {v : Value} {l : List ByteArray} {x : ByteArray} (h : Ow Ty.str 9 w (fun i => N ≤ i) v l) (hl : l.length ≤ 1000000) (hN : N ≤ w.heap.size) (hW : W = w.alloc (.cells #[.string x] 9)) :
    ∃ A1 c1 w1, (Builtin.append_ #[40, 40] 40 #[v, .slice (some ⟨w.heap.size, 0, none⟩) 1 1]).run Tryz.prog W = .ok (.slice A1 (l.length + 1) c1) w1 ∧ Ow Ty.str 9 w1 (fun i => N ≤ i) (.slice A1 (l.length + 1) c1) (l ++ [x]) ∧ Fr (fun i => N ≤ i) w w1 := by
  have hfW : Fr No w W := by rw [hW]; exact (Fr.refl No w).alloc _
  have hsz : W.heap.size = w.heap.size + 1 := by rw [hW]; simp
  have hA : At W (some ⟨w.heap.size, 0, none⟩) [.string x] := by rw [hW]; exact At.block (heap_alloc_new w _)
  have hrow : Row Ty.str W (fun i => N ≤ i ∧ v.ownBlock ≠ some i) [x] [.string x] := Row.single (t := Ty.str) rfl
  obtain ⟨A1, c1, w1, hrun, hO, hg, hat⟩ := run_ow_append (P := Tryz.prog) (ty := 40) (ty' := 40) Ty.str (h.fr0 hfW) (.string ⟨#[]⟩) 16 Tryz.underlying40 info_str rfl (by decide) (by decide) 1 (ys := [x]) hrow hA (by simp; omega)
  refine ⟨A1, c1, w1, hrun, hO.mono fun i hi _ => ?_, (hfW.mono fun _ _ f => f.elim).grown hg fun k hk => .inl (h.own hk).1⟩
  rcases hi with hi | hi <;> omega
theorem str_atT {w : World} {F : Nat → Prop} {A : Option Addr} {l : List ByteArray} (h : Rd Ty.str w F A l) {i : Nat} (hi : i < l.length) : ∃ ad, A = some ad ∧ w.cell? (ad.add i) = some (.string l[i]) := by
  obtain ⟨ad, c, e, hk, e0, _⟩ := h.get' hi (by decide)
  obtain rfl : c = _ := hk
  have := e0 _ rfl
  rw [show Ty.str.sz = 1 from rfl, Nat.mul_one] at this
  exact ⟨ad, e, this⟩
set_option maxHeartbeats 2000000 in
set_option maxRecDepth 100000 in
theorem ref_texts {w : World} {F G : Nat → Prop} {A C : Option Addr} {c d : Nat} {xs ys : List ByteArray} (h : Rd Ty.str w F A xs) (k : Rd Ty.str w G C ys) :
    Calls Tryz.prog 18 #[.slice A xs.length c, .slice C ys.length d] w fun e w' => e = .returned (.bool (decide (xs = ys))) ∧ Fr No w w' := by
  have hx := h.1
  have hy := k.1
  by_cases hl : xs.length = ys.length
  · have H := Lib.hid (And.intro h k)
    clear h k
    go_enter Tryz.func18, Tryz.ntmps18
    go_wp2_with fail
    go_loopw [5] (fun i wr => ∃ k : Nat, k ≤ xs.length ∧ i = .int .i64 (k : Int) ∧ Hid (xs.take k = ys.take k ∧ Fr No w wr)) (fun i _ => xs.length - (intOf i).toNat)
    case atStart => exact ⟨0, Nat.zero_le _, rfl, by simp, Fr.refl _ _⟩
    case round =>
      obtain ⟨k, hk, rfl, I⟩ := hrel
      obtain ⟨ht, hf⟩ := I.out
      clear I
      have hk0 : (0 : Int) ≤ (k : Int) := Int.natCast_nonneg _
      by_cases hlt : k < xs.length
      · obtain ⟨a1, rfl, x0⟩ := str_atT (H.out.1.fr0 hf) hlt
        obtain ⟨a2, rfl, y0⟩ := str_atT (H.out.2.fr0 hf) (i := k) (by omega)
        have hk1 : (k : Int) < (xs.length : Int) := by omega
        have hk2 : (k : Int) < (ys.length : Int) := by omega
        have hk3 : k < ys.length := by omega
        have hnext : xs.take (k + 1) = ys.take (k + 1) ↔ xs[k] = ys[k] := by
          rw [List.take_succ_eq_append_getElem (l := xs) hlt, List.take_succ_eq_append_getElem (l := ys) hk3, ht]
          constructor
          · intro e
            have := List.append_cancel_left e
            injection this
          · intro e
            rw [e]
        have hno : xs[k] ≠ ys[k] → xs ≠ ys := fun h e => by subst e; exact h rfl
        have HN := Lib.hid (And.intro hnext (And.intro hno hf))
        clear hnext hno ht hf
        by_cases he : xs[k] = ys[k]
        · rw [← he] at y0
          have HE := Lib.hid he
          clear he
          generalize xs[k] = u at *
          go_wp2
          go_quiet (fail)
          go_wp2
          go_roundw
          case rel => exact ⟨k + 1, by omega, by go_num, HN.out.1.2 HE.out, HN.out.2.2.drewN _⟩
          case measure => simp [intOf]; omega
        · have hne : (xs[k].toList == ys[k].toList) = false := by rw [beq_toList]; exact decide_eq_false he
          have HE := Lib.hid (HN.out.2.1 he)
          clear he
          generalize xs[k] = u at *
          generalize ys[k] = v at *
          go_wp2
          go_quiet (fail)
          go_wp2
          go_ret
          exact ⟨by rw [decide_eq_false HE.out]; rfl, HN.out.2.2.drewN _⟩
      · obtain rfl : k = xs.length := by omega
        have : xs = ys := by rw [List.take_length, hl, List.take_length] at ht; exact ht
        subst this
        have HF := Lib.hid hf
        clear ht hf
        go_wp2
        go_ret
        exact ⟨by simp, HF.out⟩
  · have hne : xs ≠ ys := fun e => hl (by rw [e])
    rw [decide_eq_false hne]
    have hl' : (xs.length : Int) ≠ (ys.length : Int) := fun e => hl (by omega)
    clear h k hne hl
    go_enter Tryz.func18, Tryz.ntmps18
    go_wp2
    go_ret
    exact ⟨rfl, Fr.refl _ _⟩
end Go.Proofs.YtlmhphejgahfbaaGreatDoor
