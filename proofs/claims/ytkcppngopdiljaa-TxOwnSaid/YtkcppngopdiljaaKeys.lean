/- 'slices.Sorted(maps.Keys(m))' of a map keyed by texts: its keys, rising, in new memory. -/
import Derived.Test.YtkcppngopdiljaaMap
import Derived.Test.YtkcppngopdiljaaShelf
import Derived.Sort.KeysCollected
set_option linter.unusedVariables false
set_option linter.unusedSimpArgs false
namespace Go.Proofs.Ytkcppngopdiljaa
open Go.RowKit Go.Maps Go.Sort Go.Shelf Go.WideElems Go.WideShapes

/-- Whatever a value is: the keys alone are asked. -/
def AnyElem : Value → Option (DataW Unit × List MemPlace) := fun _ => some (.lit (.bool false), [])
theorem MapIs.owns {P : Program} {w : World} {b : Nat} {l : List (ByteArray × Value)} {kt : TypeId} (h : MapIs w b l) (hk : P.underlying kt = some .string) (hs : ∀ p ∈ l, p.1.size ≤ maxLen) (hl : l.length ≤ maxLen) :
    ∃ D : DataW Unit, w.ownsMap P kt AnyElem b l.length D ∧ (strKeys D).Perm (l.map fun p => p.1.data.toList) ∧ Maps.size D = l.length := by
  obtain ⟨es, c, hb, he⟩ := h
  have hrd : ∀ (x : MapEntry) (s : ByteArray), x.key = .string s → s.size ≤ maxLen → WideElems.rd (H := Unit) P kt AnyElem x = some (.string s.data.toList, .lit (.bool false)) := fun x s hx hsz => by
    unfold WideElems.rd
    simp [keyOf, hk, mapKey, hx, hsz, AnyElem]
  have hkey : ∀ x ∈ es.toList, ∃ p ∈ l, x.key = .string p.1 := fun x hx => by
    obtain ⟨j, hj⟩ := List.getElem?_of_mem hx
    obtain ⟨p, hp, h1, _⟩ := he.at hj
    exact ⟨p, List.mem_of_getElem? hp, h1⟩
  have hrg : es.toList.map (rg (H := Unit) P kt AnyElem) = l.map fun p => (Lit.string p.1.data.toList, DataW.lit (.bool false)) := by
    apply List.ext_getElem?
    intro j
    simp only [List.getElem?_map]
    cases hj : es.toList[j]? with
    | none =>
      have : l[j]? = none := by
        rw [List.getElem?_eq_none_iff] at hj ⊢
        have := he.size
        simp at hj; omega
      rw [this]; rfl
    | some x =>
      obtain ⟨p, hp, h1, _⟩ := he.at hj
      rw [hp]
      simp only [Option.map_some, Option.some.injEq]
      unfold rg
      rw [hrd x p.1 h1 (hs p (List.mem_of_getElem? hp))]
      rfl
  refine ⟨_, ⟨es, c, hb, ⟨by rw [he.size]; exact hl, he.st, fun x hx => ?_⟩, by rw [he.size]; exact Nat.le_refl _, rfl⟩, ?_, ?_⟩
  · obtain ⟨p, hp, h1⟩ := hkey x hx
    exact ⟨_, hrd x p.1 h1 (hs p hp)⟩
  · show ((List.foldr DataW.insert [] _).map fun p => strOf p.1).Perm _
    rw [hrg]
    have h1 := (sorted_perm (H := Unit) (l.map fun p => (Lit.string p.1.data.toList, DataW.lit (.bool false)))).map fun p => strOf p.1
    simpa [List.map_map, Function.comp_def, strOf] using h1
  · show (List.foldr DataW.insert [] _).length = _
    rw [hrg, (sorted_perm _).length_eq, List.length_map]

theorem rising_sorted {ks : List ByteArray} (h : Rising ks) {ss : List (List UInt8)} (hp : ss.Perm (ks.map fun k => k.data.toList)) : (ss.mergeSort (fun x y => decide (x ≤ y))).map encStr = ks.map Value.string := by
  have h1 : ss.mergeSort leB = (ks.map fun k => k.data.toList).mergeSort leB := mergeSort_of_perm hp
  have h2 : (ks.map fun k => k.data.toList).mergeSort leB = ks.map fun k => k.data.toList := by
    refine List.mergeSort_of_pairwise (List.pairwise_map.2 (List.Pairwise.imp (fun {a b} hab => ?_) h))
    rw [kl_eq, toList_data, toList_data] at hab
    exact decide_eq_true (List.le_of_lt (of_decide_eq_true hab))
  show (ss.mergeSort leB).map encStr = _
  rw [h1, h2, List.map_map]
  apply List.map_congr_left
  intro k _
  simp [encStr, Function.comp]

theorem keys_perm {ks : List ByteArray} {l : List (ByteArray × Value)} (hr : Rising ks) (hn : (l.map Prod.fst).Nodup) (h : ∀ k, look k l = none ↔ k ∉ ks) : (l.map fun p => p.1.data.toList).Perm (ks.map fun k => k.data.toList) := by
  have : (l.map Prod.fst).Perm ks := (List.perm_ext_iff_of_nodup hn hr.nodup).2 fun k => by
    have := h k
    rw [look_none_iff] at this
    exact ⟨fun h => Classical.byContradiction fun hn => this.2 hn h, fun h => Classical.byContradiction fun hn => this.1 hn h⟩
  simpa [List.map_map, Function.comp_def] using this.map fun k : ByteArray => k.data.toList

set_option maxHeartbeats 1000000 in
/-- maps.Keys, and slices.Sorted of what it handed back. -/
theorem keys_ok (b : Nat) (l : List (ByteArray × Value)) (ks : List ByteArray) (w : World) (h : MapIs w b l) (hr : Rising ks) (hks : ∀ k, look k l = none ↔ k ∉ ks) (hs : ∀ k ∈ ks, k.size ≤ maxLen) (hl : ks.length ≤ 1000000000) :
    (Calls Try.prog 75 #[.map (some b)] w fun e w' => e = .returned (.func (.func 99) #[] #[.pointer (some ⟨w.heap.size, 0, none⟩)]) ∧ w' = w.alloc (.cells #[.map (some b)] 89)) ∧
    Calls Try.prog 32 #[.func (.func 99) #[] #[.pointer (some ⟨w.heap.size, 0, none⟩)]] (w.alloc (.cells #[.map (some b)] 89)) fun e w' =>
      ∃ A c, e = .returned (.slice A ks.length c) ∧ Ow Ty.str 9 w' (fun i => w.heap.size ≤ i) (.slice A ks.length c) ks ∧ Fr No w w' := by
  have hp := keys_perm hr h.nodup hks
  have hlen : l.length = ks.length := by simpa using hp.length_eq
  have hsl : ∀ p ∈ l, p.1.size ≤ maxLen := fun p hp' => by
    refine hs p.1 ?_
    rcases Classical.em (p.1 ∈ ks) with hm | hm
    · exact hm
    · exact absurd (List.mem_map.2 ⟨p, hp', rfl⟩) (look_none_iff.1 ((hks p.1).2 hm))
  obtain ⟨D0, hown, hperm, hsz⟩ := h.owns (P := Try.prog) Try.underlying9 hsl (by unfold maxLen; omega)
  have hbl := hown.lt
  have hmax : Maps.size D0 ≤ maxLen := by rw [hsz]; unfold maxLen; omega
  refine ⟨callsIn_wide.1 (AnyZ.keys_in Try.keys75 Fence.wide 5 trivial rfl (some b) w), ?_⟩
  have hseq : SeqGives Fence.wide 2 Try.prog 99 #[.pointer (some ⟨w.heap.size, 0, none⟩)] encStr (fun ss => ss.Perm (strKeys D0)) (Maps.size D0) (w.alloc (.cells #[.map (some b)] 89)) :=
    AnyZ.keys_gives (ρ := Try.keys75_ren) { Try.keys75 with } Fence.wide _ trivial rfl (by omega) w.heap.size b l.length D0 _ (by simp) (by simp) (by
      obtain ⟨es, clock, hb, Ft, hs, hD⟩ := hown
      exact ⟨es, clock, (Below.heap_alloc _ _ b hbl).trans hb, Ft, hs, hD⟩)
  have hsorts : ∀ m, AnyZ.SortsIn Try.prog Try.sorted32_ren Fence.wide m := fun m =>
    ⟨fun blk off cap ss W hH hblk hsz => callsIn_wide.2 (AnyM.slices_Sort_string Try.sort53 blk off cap ss W hH hblk hsz), fun p cap W => callsIn_wide.2 (AnyM.slices_Sort_string_none Try.sort53 p cap W)⟩
  have hc := callsIn_wide.1 (AnyZ.sorted_in Try.sorted32 Fence.wide 5 trivial trivial trivial trivial rfl (by omega) (hsorts _) (enters_of Try.func53 (by kernel_rfl) rfl)
    99 #[.pointer (some ⟨w.heap.size, 0, none⟩)] trivial (enters_of Try.func99 (by kernel_rfl) rfl) _ _ hmax (by rw [hsz]; omega) _ hseq)
  refine hc.mono ?_
  rintro e w' ⟨v, ss, rfl, hS, hrow, hnil, hb⟩
  have hS2 : ss.Perm (ks.map fun k => k.data.toList) := (hS.trans hperm).trans hp
  rw [rising_sorted hr hS2] at hrow
  have hsl2 : ss.length = ks.length := by simpa using hS2.length_eq
  rw [hsl2] at hrow
  have hO : Ow Ty.str 9 w' (fun i => w.heap.size ≤ i) v ks := by
    refine ⟨ks.map Value.string, ⟨hrow.1, hrow.2.imp id ?_⟩, ?_, fun k hk => by have := (hrow.lt k hk).1; simp at this; omega⟩
    · rintro ⟨g, cap, cur, h1, h2, h3⟩; exact ⟨g, cap, cur, h1, Nat.zero_le _, h3⟩
    · clear hrow hnil hS2 hp hlen hks hr hs hl hsl2
      induction ks with
      | nil => rfl
      | cons k ks ih => exact ⟨[.string k], ks.map Value.string, rfl, rfl, ih⟩
  obtain ⟨A, c, rfl, _, _⟩ := hO.slice
  exact ⟨A, c, rfl, hO, ((Fr.refl No w).alloc _).trans ((Fr.below hb).mono fun _ _ f => f.elim)⟩
end Go.Proofs.Ytkcppngopdiljaa
