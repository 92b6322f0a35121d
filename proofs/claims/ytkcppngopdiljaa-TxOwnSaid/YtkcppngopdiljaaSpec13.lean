/- Layer 13 (store): all keys' versions, as plain functions. -/
import Derived.Test.YtkcppngopdiljaaSpec06
import Derived.Test.YtkcppngopdiljaaMap
set_option linter.unusedVariables false
set_option linter.unusedSimpArgs false
namespace Go.Proofs.Ytkcppngopdiljaa

/-- A key's value in a list that rises by its keys. -/
def slay {β : Type} (k : ByteArray) (v : β) : List (ByteArray × β) → List (ByteArray × β)
  | [] => [(k, v)]
  | p :: l => if kl k p.1 then (k, v) :: p :: l else if k = p.1 then (k, v) :: l else p :: slay k v l
section
variable {β : Type} {k : ByteArray} {v : β} {l : List (ByteArray × β)}
theorem slay_keys (k : ByteArray) (v : β) (l : List (ByteArray × β)) : (slay k v l).map Prod.fst = ins k (l.map Prod.fst) := by
  induction l with
  | nil => rfl
  | cons p l ih =>
    unfold slay
    simp only [List.map_cons, ins]
    split
    · rfl
    · split
      · rename_i h; subst h; rfl
      · rw [← ih]; rfl
theorem slay_rising (h : Rising (l.map Prod.fst)) : Rising ((slay k v l).map Prod.fst) := by rw [slay_keys]; exact rising_ins h
theorem look_slay (h : Rising (l.map Prod.fst)) (k' : ByteArray) : look k' (slay k v l) = if k = k' then some v else look k' l := by
  induction l with
  | nil => unfold slay look; split <;> simp [look]
  | cons p l ih =>
    obtain ⟨h1, h2⟩ := List.pairwise_cons.1 h
    unfold slay
    by_cases hk : kl k p.1 = true
    · rw [if_pos hk]; simp only [look]
    · rw [if_neg hk]
      by_cases he : k = p.1
      · rw [if_pos he]
        subst he
        simp only [look]
        split <;> rfl
      · rw [if_neg he]
        simp only [look, ih h2]
        by_cases h3 : p.1 = k'
        · rw [if_pos h3, if_neg (fun e => he (e.trans h3.symm)), if_pos h3]
        · rw [if_neg h3, if_neg h3]
theorem slay_length : (slay k v l).length ≤ l.length + 1 := by
  induction l with
  | nil => simp [slay]
  | cons p l ih =>
    unfold slay
    split
    · simp
    · split
      · simp
      · simp only [List.length_cons]; omega
theorem mem_slay (h : Rising (l.map Prod.fst)) (p : ByteArray × β) (hp : p ∈ slay k v l) : p = (k, v) ∨ p ∈ l := by
  have h1 := look_of_mem (slay_rising h).nodup (show (p.1, p.2) ∈ slay k v l from hp)
  rw [look_slay h] at h1
  split at h1
  · rename_i e; injection h1 with h1; left; rw [e, h1]
  · exact .inr (look_mem h1)
end

/-- Keys, rising, and their chains; how many batches came. -/
structure Sto where
  kc : List (ByteArray × Chn)
  now : Int
namespace Sto
def empty : Sto := ⟨[], 0⟩
def of (s : Sto) (k : ByteArray) : Chn := (look k s.kc).getD Chn.empty
/-- One write of the batch n. -/
def put1 (n : Int) (kc : List (ByteArray × Chn)) (x : Wr) : List (ByteArray × Chn) := slay x.key (((look x.key kc).getD Chn.empty).put n x.row x.gone) kc
def apply (s : Sto) (n : Int) (l : List Wr) : Sto × Int :=
  if right n l = false then (s, 2) else if n = s.now + 1 then (⟨l.foldl (put1 n) s.kc, n⟩, 0) else (s, 1)
def get (s : Sto) (a : Int) (k : ByteArray) : Option Bs := (s.of k).get a
def last (s : Sto) (k : ByteArray) : Int := (s.of k).last
/-- What is seen at a number, from a key on, and below another one. -/
def all (s : Sto) (a : Int) (lo hi : ByteArray) : List (ByteArray × Bs) :=
  s.kc.filterMap fun p => match p.2.get a with
    | some row => if kl p.1 lo = false ∧ (hi.size = 0 ∨ kl p.1 hi = true) then some (p.1, row) else none
    | none => none
def scan (s : Sto) (a : Int) (lo hi : ByteArray) (most : Int) : List (ByteArray × Bs) := (s.all a lo hi).take most.toNat
def cut (s : Sto) (a : Int) : Nat := (s.kc.map fun p => p.2.cut a).sum
def trim (s : Sto) (a : Int) : Sto := ⟨s.kc.map fun p => (p.1, p.2.trim a), s.now⟩
def len (s : Sto) : Nat := (s.kc.map fun p => p.2.l.length).sum
/-- How much there is, at most: m numbers. -/
structure Small (s : Sto) (m : Nat) : Prop where
  now0 : 0 ≤ s.now
  now1 : s.now ≤ m
  keys : s.kc.length ≤ m
  ksz : ∀ p ∈ s.kc, p.1.size ≤ 4000
  chains : ∀ p ∈ s.kc, p.2.l.length ≤ m ∧ p.2.last ≤ s.now ∧ ∀ v ∈ p.2.l, v.row.length ≤ 4000
end Sto

/-! ### What a scan selects -/
abbrev Item := ByteArray × Bs
def tItem : Ty Item := Ty.pair Ty.str (Ty.slice Ty.u8)
theorem tItem_open {w : World} {F : Nat → Prop} {x : Item} {cs : List Value} (h : tItem.K w F x cs) : ∃ A c, cs = [.string x.1, .slice A x.2.length c] ∧ x.2.length ≤ c ∧ Rd Ty.u8 w F A x.2 := by
  obtain ⟨_, _, rfl, rfl, A, c, rfl, h1, h2⟩ := h
  exact ⟨A, c, rfl, h1, h2⟩
theorem tItem_mk {w : World} {F : Nat → Prop} {a : ByteArray} {r : Bs} {A : Option Addr} {c : Nat} (h1 : r.length ≤ c) (h2 : Rd Ty.u8 w F A r) : tItem.K w F (a, r) [.string a, .slice A r.length c] :=
  ⟨[_], [_], rfl, rfl, A, c, rfl, h1, h2⟩
namespace Sto
def sel (a : Int) (lo hi : ByteArray) (p : ByteArray × Chn) : Option Item :=
  match p.2.get a with
  | some row => if kl p.1 lo = false ∧ (hi.size = 0 ∨ kl p.1 hi = true) then some (p.1, row) else none
  | none => none
theorem all_eq (s : Sto) (a : Int) (lo hi : ByteArray) : s.all a lo hi = s.kc.filterMap (sel a lo hi) := rfl
theorem sel_none {a : Int} {lo hi : ByteArray} {p : ByteArray × Chn} (h0 : hi.size ≠ 0) (h : kl p.1 hi = false) : sel a lo hi p = none := by
  unfold sel
  split
  · rw [if_neg (by rw [h]; simp [h0])]
  · rfl
theorem scan_stop1 {s : Sto} {a : Int} {lo hi : ByteArray} {most : Int} {k : Nat} (h : most ≤ (((s.kc.take k).filterMap (sel a lo hi)).length : Int)) (h' : (((s.kc.take k).filterMap (sel a lo hi)).length : Int) ≤ max most 0) :
    s.scan a lo hi most = (s.kc.take k).filterMap (sel a lo hi) := by
  have e : most.toNat = ((s.kc.take k).filterMap (sel a lo hi)).length := by omega
  unfold scan
  have h2 := List.filterMap_append (f := sel a lo hi) (l := s.kc.take k) (l' := s.kc.drop k)
  rw [List.take_append_drop] at h2
  rw [all_eq, e, h2]
  exact List.take_left
theorem scan_stop2 {s : Sto} {a : Int} {lo hi : ByteArray} {most : Int} {k : Nat} (hr : Rising (s.kc.map Prod.fst)) (hk : k < s.kc.length) (h0 : hi.size ≠ 0) (hh : kl s.kc[k].1 hi = false) (h' : (((s.kc.take k).filterMap (sel a lo hi)).length : Int) ≤ max most 0) :
    s.scan a lo hi most = (s.kc.take k).filterMap (sel a lo hi) := by
  have e : s.kc.filterMap (sel a lo hi) = (s.kc.take k).filterMap (sel a lo hi) := by
    conv => lhs; rw [← List.take_append_drop k s.kc]
    rw [List.filterMap_append]
    have : (s.kc.drop k).filterMap (sel a lo hi) = [] := by
      rw [List.filterMap_eq_nil_iff]
      intro p hp
      refine sel_none h0 ?_
      obtain ⟨j, hj, rfl⟩ := List.mem_drop_iff_getElem.1 hp
      rcases Nat.eq_zero_or_pos j with rfl | hj0
      · exact hh
      · have h1 := List.pairwise_iff_getElem.1 (List.pairwise_map.1 hr) k (k + j) hk (by omega) (by omega)
        cases h2 : kl (s.kc[k + j]'(by omega)).1 hi with
        | false => rfl
        | true => have := kl_trans h1 h2; rw [hh] at this; cases this
    rw [this, List.append_nil]
  unfold scan
  rw [all_eq, e]
  exact List.take_of_length_le (by omega)
theorem scan_end {s : Sto} {a : Int} {lo hi : ByteArray} {most : Int} (h' : ((s.kc.filterMap (sel a lo hi)).length : Int) ≤ max most 0) : s.scan a lo hi most = s.kc.filterMap (sel a lo hi) := by
  unfold scan
  rw [all_eq]
  exact List.take_of_length_le (by omega)
theorem sel_step {s : Sto} {a : Int} {lo hi : ByteArray} {k : Nat} (hk : k < s.kc.length) : (s.kc.take (k + 1)).filterMap (sel a lo hi) = (s.kc.take k).filterMap (sel a lo hi) ++ (sel a lo hi s.kc[k]).toList := by
  rw [List.take_succ_eq_append_getElem hk, List.filterMap_append]
  cases h : sel a lo hi s.kc[k] <;> simp [h]
end Sto
end Go.Proofs.Ytkcppngopdiljaa
