/- Texts of this claim, one behind the other: Store, Keys, Store2, Tx. -/
import Derived.Test.YtlmhphejgahfbaaGreatDoorMrowledgerdeletes12
import Derived.Test.YtlmhphejgahfbaaGreatDoorMrowledgerdeletes7
import Derived.Test.YtlmhphejgahfbaaGreatDoorMrowledgerdeletes17
import Derived.Test.YtlmhphejgahfbaaGreatDoorShelf2
import Derived.Test.YtlmhphejgahfbaaGreatDoorMrowledgerdeletes3
import Derived.Test.YtlmhphejgahfbaaGreatDoorShelf
import Derived.Sort.KeysCollected
import Derived.Test.YtlmhphejgahfbaaGreatDoorMrowledgerdeletes2
/- Layer 13 (store): how a store lies in memory. -/
set_option linter.unusedVariables false
set_option linter.unusedSimpArgs false
namespace Go.Proofs.YtlmhphejgahfbaaGreatDoor
open Go.RowKit

theorem slay_cons {β : Type} (k : ByteArray) (v : β) (p : ByteArray × β) (l : List (ByteArray × β)) : slay k v (p :: l) = if kl k p.1 then (k, v) :: p :: l else if k = p.1 then (k, v) :: l else p :: slay k v l := rfl
theorem slay_slay {β : Type} (k : ByteArray) (u v : β) (l : List (ByteArray × β)) : slay k v (slay k u l) = slay k v l := by
  induction l with
  | nil => simp [slay, kl_irrefl]
  | cons p l ih =>
    rw [slay_cons k u, slay_cons k v]
    by_cases h1 : kl k p.1 = true
    · rw [if_pos h1, if_pos h1, slay_cons]; simp [kl_irrefl]
    · rw [if_neg h1, if_neg h1]
      by_cases h2 : k = p.1
      · rw [if_pos h2, if_pos h2, slay_cons]; simp [kl_irrefl]
      · rw [if_neg h2, if_neg h2, slay_cons, if_neg h1, if_neg h2, ih]

/-- A map's pointers lead to chains, each apart from the others. -/
structure Held (w : World) (l : List (ByteArray × Value)) (kc : List (ByteArray × Chn)) (G : ByteArray → Nat → Prop) : Prop where
  rising : Rising (kc.map Prod.fst)
  keys : ∀ k, look k l = none ↔ look k kc = none
  at_ : ∀ k v c, look k l = some v → look k kc = some c → ∃ b, v = .pointer (some ⟨b, 0, none⟩) ∧ ChainAt w (G k) b c
  lt : ∀ k i, G k i → i < w.heap.size
  apart : ∀ k k' i, k ≠ k' → G k i → ¬ G k' i

section
variable {w w' : World} {l : List (ByteArray × Value)} {kc : List (ByteArray × Chn)} {G : ByteArray → Nat → Prop}
theorem Held.stab (h : Held w l kc G) (hs : w.heap.size ≤ w'.heap.size) (hk : ∀ k i, G k i → w'.heap[i]? = w.heap[i]?) : Held w' l kc G :=
  ⟨h.rising, h.keys, fun k v c h1 h2 => by
    obtain ⟨b, e, hc⟩ := h.at_ k v c h1 h2
    exact ⟨b, e, hc.stab fun i hi _ => hk k i hi⟩, fun k i hi => Nat.lt_of_lt_of_le (h.lt k i hi) hs, h.apart⟩
theorem Held.fr {S : Nat → Prop} (h : Held w l kc G) (f : Fr S w w') (hd : ∀ k i, G k i → ¬ S i) : Held w' l kc G := h.stab f.size fun k i hi => f.block i (h.lt k i hi) (hd k i hi)
theorem Held.fr0 (h : Held w l kc G) (f : Fr No w w') : Held w' l kc G := h.fr f fun _ _ _ f => f
/-- One chain is written. -/
theorem Held.turn (h : Held w l kc G) {k0 : ByteArray} {b : Nat} {c' : Chn} (hv : look k0 l = some (.pointer (some ⟨b, 0, none⟩))) (f : Fr (G k0) w w') (hc : ChainAt w' (fun i => G k0 i ∨ w.heap.size ≤ i) b c') :
    ∃ G', Held w' l (slay k0 c' kc) G' ∧ ∀ k i, G' k i → (∃ k', G k' i) ∨ w.heap.size ≤ i := by
  have hk0 : look k0 kc ≠ none := fun e => by rw [(h.keys k0).2 e] at hv; cases hv
  refine ⟨fun k i => if k = k0 then (G k0 i ∨ w.heap.size ≤ i) ∧ i < w'.heap.size else G k i, ⟨slay_rising h.rising, fun k => ?_, fun k v c h1 h2 => ?_, fun k i hi => ?_, fun k k' i hne hi => ?_⟩, fun k i hi => ?_⟩
  · rw [look_slay h.rising]
    split
    · rename_i e; subst e; rw [hv]; simp
    · exact h.keys k
  · rw [look_slay h.rising] at h2
    by_cases e : k = k0
    · subst e
      rw [if_pos rfl] at h2
      injection h2 with h2
      rw [hv] at h1
      injection h1 with h1
      subst h1; subst h2
      exact ⟨b, rfl, hc.mono fun i hi hl => by simp only [if_true]; exact ⟨hi, hl⟩⟩
    · rw [if_neg (fun e' => e e'.symm)] at h2
      obtain ⟨b', e', hc'⟩ := h.at_ k v c h1 h2
      refine ⟨b', e', ?_⟩
      simp only [if_neg e]
      exact hc'.fr f fun i hi hg => h.apart k k0 i e hi hg
  · split at hi
    · exact hi.2
    · exact Nat.lt_of_lt_of_le (h.lt k i hi) f.size
  · intro hi'
    split at hi <;> split at hi' <;> rename_i e1 e2
    · exact hne (e1.trans e2.symm)
    · rcases hi.1 with hg | hg
      · exact h.apart k0 k' i (fun e => e2 e.symm) hg hi'
      · have := h.lt k' i hi'; omega
    · rcases hi'.1 with hg | hg
      · exact h.apart k k0 i e1 hi hg
      · have := h.lt k i hi; omega
    · exact h.apart k k' i hne hi hi'
  · dsimp only at hi
    split at hi
    · rcases hi.1 with hg | hg
      · exact .inl ⟨k0, hg⟩
      · exact .inr hg
    · exact .inl ⟨k, hi⟩
/-- A key is new. -/
theorem Held.more (h : Held w l kc G) {k0 : ByteArray} {b : Nat} (hk : look k0 kc = none) (f : Fr No w w') (hc : ChainAt w' (fun i => w.heap.size ≤ i) b Chn.empty) :
    ∃ G', Held w' (lay k0 (.pointer (some ⟨b, 0, none⟩)) l) (slay k0 Chn.empty kc) G' ∧ ∀ k i, G' k i → (∃ k', G k' i) ∨ w.heap.size ≤ i := by
  refine ⟨fun k i => if k = k0 then w.heap.size ≤ i ∧ i < w'.heap.size else G k i, ⟨slay_rising h.rising, fun k => ?_, fun k v c h1 h2 => ?_, fun k i hi => ?_, fun k k' i hne hi => ?_⟩, fun k i hi => ?_⟩
  · rw [look_slay h.rising, look_lay]
    split
    · simp
    · exact h.keys k
  · rw [look_slay h.rising] at h2
    rw [look_lay] at h1
    by_cases e : k = k0
    · subst e
      rw [if_pos rfl] at h1 h2
      injection h2 with h2
      injection h1 with h1
      subst h1; subst h2
      exact ⟨b, rfl, hc.mono fun i hi hl => by simp only [if_true]; exact ⟨hi, hl⟩⟩
    · rw [if_neg (fun e' => e e'.symm)] at h1 h2
      obtain ⟨b', e', hc'⟩ := h.at_ k v c h1 h2
      refine ⟨b', e', ?_⟩
      simp only [if_neg e]
      exact hc'.fr0 f
  · split at hi
    · exact hi.2
    · exact Nat.lt_of_lt_of_le (h.lt k i hi) f.size
  · intro hi'
    split at hi <;> split at hi' <;> rename_i e1 e2
    · exact hne (e1.trans e2.symm)
    · have := h.lt k' i hi'; omega
    · have := h.lt k i hi; omega
    · exact h.apart k k' i hne hi hi'
  · dsimp only at hi
    split at hi
    · exact .inr hi.1
    · exact .inl ⟨k, hi⟩
end

/-- A store behind a pointer; F bounds all its blocks. -/
def StoreAt (w : World) (F : Nat → Prop) (sb : Nat) (s : Sto) : Prop :=
  F sb ∧ ∃ mb l G, F mb ∧ mb ≠ sb ∧ w.heap[sb]? = some (.cells #[.map (some mb), .int .i64 s.now] 159 (0, 0)) ∧ MapIs w mb l ∧ Held w l s.kc G ∧ ∀ k i, G k i → F i ∧ i ≠ sb ∧ i ≠ mb
theorem StoreAt.stab {w w' : World} {F : Nat → Prop} {sb : Nat} {s : Sto} (h : StoreAt w F sb s) (hs : w.heap.size ≤ w'.heap.size) (k : ∀ k, F k → k < w.heap.size → w'.heap[k]? = w.heap[k]?) : StoreAt w' F sb s := by
  obtain ⟨h1, mb, l, G, h2, h3, h4, h5, h6, h7⟩ := h
  exact ⟨h1, mb, l, G, h2, h3, (k _ h1 (blk_lt h4)).trans h4, h5.stab (k _ h2 h5.lt), h6.stab hs fun k' i hi => k i (h7 k' i hi).1 (h6.lt k' i hi), h7⟩
theorem StoreAt.fr {S : Nat → Prop} {w w' : World} {F : Nat → Prop} {sb : Nat} {s : Sto} (h : StoreAt w F sb s) (f : Fr S w w') (hd : ∀ k, F k → ¬ S k) : StoreAt w' F sb s := h.stab f.size fun k hk hl => f.block k hl (hd k hk)
theorem StoreAt.fr0 {w w' : World} {F : Nat → Prop} {sb : Nat} {s : Sto} (h : StoreAt w F sb s) (f : Fr No w w') : StoreAt w' F sb s := h.stab f.size fun k hk hl => f.block k hl (fun f => f)
theorem StoreAt.mono {w : World} {F F' : Nat → Prop} {sb : Nat} {s : Sto} (h : StoreAt w F sb s) (k : ∀ k, F k → k < w.heap.size → F' k) : StoreAt w F' sb s := by
  obtain ⟨h1, mb, l, G, h2, h3, h4, h5, h6, h7⟩ := h
  exact ⟨k _ h1 (blk_lt h4), mb, l, G, k _ h2 h5.lt, h3, h4, h5, h6, fun k' i hi => ⟨k i (h7 k' i hi).1 (h6.lt k' i hi), (h7 k' i hi).2⟩⟩
theorem StoreAt.rising {w : World} {F : Nat → Prop} {sb : Nat} {s : Sto} (h : StoreAt w F sb s) : Rising (s.kc.map Prod.fst) := by
  obtain ⟨h1, mb, l, G, h2, h3, h4, h5, h6, h7⟩ := h
  exact h6.rising

theorem store_new (w : World) : Calls Tryz.prog 40 #[] w fun e w' => ∃ b, e = .returned (.pointer (some ⟨b, 0, none⟩)) ∧ StoreAt w' (fun k => w.heap.size ≤ k) b Sto.empty ∧ Fr No w w' := by
  have hmm := @run_makeMap Tryz.prog
  go_enter Tryz.func40, Tryz.ntmps40
  go_wp2
  go_ret
  refine ⟨w.heap.size + 1, rfl, ⟨by omega, w.heap.size, [], fun _ _ => False, Nat.le_refl _, by omega, ?_, ?_, ⟨List.Pairwise.nil, fun k => ⟨fun _ => rfl, fun _ => rfl⟩, (fun k v c h => by cases h), (fun k i h => h.elim), (fun k k' i _ h => h.elim)⟩, (fun k i h => h.elim)⟩, ((Fr.refl No w).alloc _).alloc _⟩
  · have := heap_alloc_new (w.alloc (.map #[] 0)) (.cells #[.map (some w.heap.size), .int .i64 0] 159)
    rw [World.size_alloc] at this
    exact this
  · exact (MapIs.new w).stab (Below.heap_alloc _ _ _ (by simp))
end Go.Proofs.YtlmhphejgahfbaaGreatDoor
/- 'slices.Sorted(maps.Keys(m))' of a map keyed by texts: its keys, rising, in new memory. -/
set_option linter.unusedVariables false
set_option linter.unusedSimpArgs false
namespace Go.Proofs.YtlmhphejgahfbaaGreatDoor
open Go.RowKit Go.Maps Go.Sort Go.Shelf Go.WideElems Go.WideShapes

/-- Whatever a value is: the keys alone are asked. -/
def AnyElem : Value → Option (DataW Unit × List MemPlace) := fun _ => some (.lit (.bool false), [])
theorem MapIs.owns {P : Program} {w : World} {b : Nat} {l : List (ByteArray × Value)} {kt : TypeId} (h : MapIs w b l) (hk : P.underlying kt = some .string) (hs : ∀ p ∈ l, p.1.size ≤ maxLen) (hl : l.length ≤ maxLen) :
    ∃ D : DataW Unit, w.ownsMap P kt AnyElem b l.length D ∧ (strKeys D).Perm (l.map fun p => p.1.data.toList) ∧ Maps.size D = l.length := by
  obtain ⟨es, c, hb, he⟩ := h
  have hrd : ∀ (x : MapEntry) (s : ByteArray), x.key = .string s → s.size ≤ maxLen → WideElems.rd (H := Unit) P kt AnyElem x = some (.string s.data.toList, .lit (.bool false)) := fun x s hx hsz => by
    unfold WideElems.rd
    simp [keyOf, hk, mapKey, hx, hsz, AnyElem]
  have hkey : ∀ x ∈ es.toList, ∃ p ∈ l, x.key = .string p.1 := fun x hx => by
    obtain ⟨j, hj⟩ := List.getElem?_of_mem hx
    obtain ⟨p, hp, h1, _⟩ := he.at hj
    exact ⟨p, List.mem_of_getElem? hp, h1⟩
  have hrg : es.toList.map (rg (H := Unit) P kt AnyElem) = l.map fun p => (Lit.string p.1.data.toList, DataW.lit (.bool false)) := by
    apply List.ext_getElem?
    intro j
    simp only [List.getElem?_map]
    cases hj : es.toList[j]? with
    | none =>
      have : l[j]? = none := by
        rw [List.getElem?_eq_none_iff] at hj ⊢
        have := he.size
        simp at hj; omega
      rw [this]; rfl
    | some x =>
      obtain ⟨p, hp, h1, _⟩ := he.at hj
      rw [hp]
      simp only [Option.map_some, Option.some.injEq]
      unfold rg
      rw [hrd x p.1 h1 (hs p (List.mem_of_getElem? hp))]
      rfl
  refine ⟨_, ⟨es, c, hb, ⟨by rw [he.size]; exact hl, he.st, fun x hx => ?_⟩, by rw [he.size]; exact Nat.le_refl _, rfl⟩, ?_, ?_⟩
  · obtain ⟨p, hp, h1⟩ := hkey x hx
    exact ⟨_, hrd x p.1 h1 (hs p hp)⟩
  · show ((List.foldr DataW.insert [] _).map fun p => strOf p.1).Perm _
    rw [hrg]
    have h1 := (sorted_perm (H := Unit) (l.map fun p => (Lit.string p.1.data.toList, DataW.lit (.bool false)))).map fun p => strOf p.1
    simpa [List.map_map, Function.comp_def, strOf] using h1
  · show (List.foldr DataW.insert [] _).length = _
    rw [hrg, (sorted_perm _).length_eq, List.length_map]

theorem rising_sorted {ks : List ByteArray} (h : Rising ks) {ss : List (List UInt8)} (hp : ss.Perm (ks.map fun k => k.data.toList)) : (ss.mergeSort (fun x y => decide (x ≤ y))).map encStr = ks.map Value.string := by
  have h1 : ss.mergeSort leB = (ks.map fun k => k.data.toList).mergeSort leB := mergeSort_of_perm hp
  have h2 : (ks.map fun k => k.data.toList).mergeSort leB = ks.map fun k => k.data.toList := by
    refine List.mergeSort_of_pairwise (List.pairwise_map.2 (List.Pairwise.imp (fun {a b} hab => ?_) h))
    rw [kl_eq, toList_data, toList_data] at hab
    exact decide_eq_true (List.le_of_lt (of_decide_eq_true hab))
  show (ss.mergeSort leB).map encStr = _
  rw [h1, h2, List.map_map]
  apply List.map_congr_left
  intro k _
  simp [encStr, Function.comp]

theorem keys_perm {ks : List ByteArray} {l : List (ByteArray × Value)} (hr : Rising ks) (hn : (l.map Prod.fst).Nodup) (h : ∀ k, look k l = none ↔ k ∉ ks) : (l.map fun p => p.1.data.toList).Perm (ks.map fun k => k.data.toList) := by
  have : (l.map Prod.fst).Perm ks := (List.perm_ext_iff_of_nodup hn hr.nodup).2 fun k => by
    have := h k
    rw [look_none_iff] at this
    exact ⟨fun h => Classical.byContradiction fun hn => this.2 hn h, fun h => Classical.byContradiction fun hn => this.1 hn h⟩
  simpa [List.map_map, Function.comp_def] using this.map fun k : ByteArray => k.data.toList

set_option maxHeartbeats 1000000 in
/-- maps.Keys, and slices.Sorted of what it handed back. -/
theorem keys_ok (b : Nat) (l : List (ByteArray × Value)) (ks : List ByteArray) (w : World) (h : MapIs w b l) (hr : Rising ks) (hks : ∀ k, look k l = none ↔ k ∉ ks) (hs : ∀ k ∈ ks, k.size ≤ maxLen) (hl : ks.length ≤ 1000000000) :
    (Calls Tryz.prog 201 #[.map (some b)] w fun e w' => e = .returned (.func (.func 231) #[] #[.pointer (some ⟨w.heap.size, 0, none⟩)]) ∧ w' = w.alloc (.cells #[.map (some b)] 157)) ∧
    Calls Tryz.prog 138 #[.func (.func 231) #[] #[.pointer (some ⟨w.heap.size, 0, none⟩)]] (w.alloc (.cells #[.map (some b)] 157)) fun e w' =>
      ∃ A c, e = .returned (.slice A ks.length c) ∧ Ow Ty.str 9 w' (fun i => w.heap.size ≤ i) (.slice A ks.length c) ks ∧ Fr No w w' := by
  have hp := keys_perm hr h.nodup hks
  have hlen : l.length = ks.length := by simpa using hp.length_eq
  have hsl : ∀ p ∈ l, p.1.size ≤ maxLen := fun p hp' => by
    refine hs p.1 ?_
    rcases Classical.em (p.1 ∈ ks) with hm | hm
    · exact hm
    · exact absurd (List.mem_map.2 ⟨p, hp', rfl⟩) (look_none_iff.1 ((hks p.1).2 hm))
  obtain ⟨D0, hown, hperm, hsz⟩ := h.owns (P := Tryz.prog) Tryz.underlying9 hsl (by unfold maxLen; omega)
  have hbl := hown.lt
  have hmax : Maps.size D0 ≤ maxLen := by rw [hsz]; unfold maxLen; omega
  refine ⟨callsIn_wide.1 (AnyZ.keys_in Tryz.keys201 Fence.wide 5 trivial rfl (some b) w), ?_⟩
  have hseq : SeqGives Fence.wide 2 Tryz.prog 231 #[.pointer (some ⟨w.heap.size, 0, none⟩)] encStr (fun ss => ss.Perm (strKeys D0)) (Maps.size D0) (w.alloc (.cells #[.map (some b)] 157)) :=
    AnyZ.keys_gives (ρ := Tryz.keys201_ren) { Tryz.keys201 with } Fence.wide _ trivial rfl (by omega) w.heap.size b l.length D0 _ (by simp) (by simp) (by
      obtain ⟨es, clock, hb, Ft, hs, hD⟩ := hown
      exact ⟨es, clock, (Below.heap_alloc _ _ b hbl).trans hb, Ft, hs, hD⟩)
  have hsorts : ∀ m, AnyZ.SortsIn Tryz.prog Tryz.sorted138_ren Fence.wide m := fun m =>
    ⟨fun blk off cap ss W hH hblk hsz => callsIn_wide.2 (AnyM.slices_Sort_string Tryz.sort183 blk off cap ss W hH hblk hsz), fun p cap W => callsIn_wide.2 (AnyM.slices_Sort_string_none Tryz.sort183 p cap W)⟩
  have hc := callsIn_wide.1 (AnyZ.sorted_in Tryz.sorted138 Fence.wide 5 trivial trivial trivial trivial rfl (by omega) (hsorts _) (enters_of Tryz.func183 (by kernel_rfl) rfl)
    231 #[.pointer (some ⟨w.heap.size, 0, none⟩)] trivial (enters_of Tryz.func231 (by kernel_rfl) rfl) _ _ hmax (by rw [hsz]; omega) _ hseq)
  refine hc.mono ?_
  rintro e w' ⟨v, ss, rfl, hS, hrow, hnil, hb⟩
  have hS2 : ss.Perm (ks.map fun k => k.data.toList) := (hS.trans hperm).trans hp
  rw [rising_sorted hr hS2] at hrow
  have hsl2 : ss.length = ks.length := by simpa using hS2.length_eq
  rw [hsl2] at hrow
  have hO : Ow Ty.str 9 w' (fun i => w.heap.size ≤ i) v ks := by
    refine ⟨ks.map Value.string, ⟨hrow.1, hrow.2.imp id ?_⟩, ?_, fun k hk => by have := (hrow.lt k hk).1; simp at this; omega⟩
    · rintro ⟨g, cap, cur, h1, h2, h3⟩; exact ⟨g, cap, cur, h1, Nat.zero_le _, h3⟩
    · clear hrow hnil hS2 hp hlen hks hr hs hl hsl2
      induction ks with
      | nil => rfl
      | cons k ks ih => exact ⟨[.string k], ks.map Value.string, rfl, rfl, ih⟩
  obtain ⟨A, c, rfl, _, _⟩ := hO.slice
  exact ⟨A, c, rfl, hO, ((Fr.refl No w).alloc _).trans ((Fr.below hb).mono fun _ _ f => f.elim)⟩
end Go.Proofs.YtlmhphejgahfbaaGreatDoor
/- Layer 13 (store): the functions that only read. -/
set_option linter.unusedVariables false
set_option linter.unusedSimpArgs false
namespace Go.Proofs.YtlmhphejgahfbaaGreatDoor
open Go.RowKit

theorem store_now_nil (w : World) : Calls Tryz.prog 45 #[.pointer none] w fun e w' => e = .returned (.int .i64 0) ∧ w' = w := by
  go_enter Tryz.func45, Tryz.ntmps45
  go_wp2
  go_ret
  exact ⟨rfl, rfl⟩
theorem store_now {w : World} {F : Nat → Prop} {sb : Nat} {s : Sto} (h : StoreAt w F sb s) : Calls Tryz.prog 45 #[.pointer (some ⟨sb, 0, none⟩)] w fun e w' => e = .returned (.int .i64 s.now) ∧ w' = w := by
  obtain ⟨h1, mb, l, G, h2, h3, h4, h5, h6, h7⟩ := h
  have c0 := blk_cell h4 1
  clear h1 h2 h3 h4 h5 h6 h7
  simp at c0
  go_enter Tryz.func45, Tryz.ntmps45
  go_wp2
  go_ret
  exact ⟨rfl, rfl⟩

theorem zero_chain (w : World) : (zeroValue 224).run Tryz.prog w = .ok (.pointer none) w := by kernel_rfl
/-- A key's chain, or nil. -/
def ChainOf (w : World) (F : Nat → Prop) (s : Sto) (k : ByteArray) (v : Value) : Prop :=
  (look k s.kc = none ∧ v = .pointer none) ∨ ∃ c b G, look k s.kc = some c ∧ v = .pointer (some ⟨b, 0, none⟩) ∧ ChainAt w G b c ∧ ∀ i, G i → F i
theorem store_of_nil (k : ByteArray) (w : World) : Calls Tryz.prog 172 #[.pointer none, .string k] w fun e w' => e = .returned (.pointer none) ∧ w' = w := by
  go_enter Tryz.func172, Tryz.ntmps172
  go_wp2
  go_ret
  exact ⟨rfl, rfl⟩
theorem store_of {w : World} {F : Nat → Prop} {sb : Nat} {s : Sto} (h : StoreAt w F sb s) (k : ByteArray) :
    Calls Tryz.prog 172 #[.pointer (some ⟨sb, 0, none⟩), .string k] w fun e w' => ∃ v, e = .returned v ∧ ChainOf w F s k v ∧ w' = w := by
  obtain ⟨h1, mb, l, G, h2, h3, h4, h5, h6, h7⟩ := h
  have c0 := blk_cell h4 0
  have hrun := (run_map_look (P := Tryz.prog) h5 157 _ _ Tryz.underlying157 Tryz.underlying9 _ (zero_chain w) k).1
  have hv : ChainOf w F s k ((look k l).getD (.pointer none)) := by
    cases hl : look k l with
    | none => exact .inl ⟨(h6.keys k).1 hl, rfl⟩
    | some v =>
      cases hc : look k s.kc with
      | none => rw [(h6.keys k).2 hc] at hl; cases hl
      | some c =>
        obtain ⟨b, rfl, hb⟩ := h6.at_ k v c hl hc
        exact .inr ⟨c, b, G k, hc, rfl, hb, fun i hi => (h7 k i hi).1⟩
  have HV := Lib.hid hv
  clear h1 h2 h3 h4 h5 h6 h7 hv
  simp at c0
  generalize (look k l).getD (.pointer none) = v at *
  go_enter Tryz.func172, Tryz.ntmps172
  go_wp2
  go_ret
  exact ⟨v, rfl, HV.out, rfl⟩

theorem get_empty (a : Int) : Chn.empty.get a = none := rfl
theorem sto_get_none {s : Sto} {k : ByteArray} (h : look k s.kc = none) (a : Int) : s.get a k = none := by unfold Sto.get Sto.of; rw [h]; rfl
theorem sto_get_some {s : Sto} {k : ByteArray} {c : Chn} (h : look k s.kc = some c) (a : Int) : s.get a k = c.get a := by unfold Sto.get Sto.of; rw [h]; rfl
theorem sto_last_none {s : Sto} {k : ByteArray} (h : look k s.kc = none) : s.last k = 0 := by unfold Sto.last Sto.of; rw [h]; rfl
theorem sto_last_some {s : Sto} {k : ByteArray} {c : Chn} (h : look k s.kc = some c) : s.last k = c.last := by unfold Sto.last Sto.of; rw [h]; rfl

theorem store_get_nil (a : Int) (k : ByteArray) (w : World) : Calls Tryz.prog 117 #[.pointer none, .int .i64 a, .string k] w fun e w' => RowOk w w' e none ∧ Fr No w w' := by
  go_enter Tryz.func117, Tryz.ntmps117
  go_wp2_with (first
    | (go_at_call 172; refine (store_of_nil _ _).mono ?_; rintro e w' ⟨rfl, rfl⟩)
    | (go_at_call 173; refine (chain_get_nil _ _).mono ?_; rintro e w' ⟨⟨A1, c1, rfl, ho⟩, hf⟩))
  go_ret2
  exact ⟨⟨A1, c1, rfl, ho⟩, hf⟩
theorem chain_get_of {w : World} {F : Nat → Prop} {s : Sto} {m : Nat} {k : ByteArray} {v : Value} (hv : ChainOf w F s k v) (hs : s.Small m) (hm : m ≤ 100000000) (a : Int) :
    Calls Tryz.prog 173 #[v, .int .i64 a] w fun e w' => RowOk w w' e (s.get a k) ∧ Fr No w w' := by
  rcases hv with ⟨hn, rfl⟩ | ⟨c, b, G, hc, rfl, hb, _⟩
  · rw [sto_get_none hn]; exact chain_get_nil a w
  · rw [sto_get_some hc]
    have h3 : c.l.length ≤ m ∧ c.last ≤ s.now ∧ ∀ v ∈ c.l, v.row.length ≤ 4000 := hs.chains (k, c) (look_mem hc)
    exact chain_get hb (by have := h3.1; omega) (fun v hv => by have := h3.2.2 v hv; omega)
theorem store_get {w : World} {F : Nat → Prop} {sb : Nat} {s : Sto} {m : Nat} (h : StoreAt w F sb s) (hs : s.Small m) (hm : m ≤ 100000000) (a : Int) (k : ByteArray) :
    Calls Tryz.prog 117 #[.pointer (some ⟨sb, 0, none⟩), .int .i64 a, .string k] w fun e w' => RowOk w w' e (s.get a k) ∧ Fr No w w' := by
  have hof := Lib.hid (store_of h k)
  have HS := Lib.hid (And.intro hs hm)
  clear hs hm
  go_enter Tryz.func117, Tryz.ntmps117
  go_wp2_with (first
    | (go_at_call 172; refine hof.out.mono ?_; rintro e w' ⟨v, rfl, hv, rfl⟩; have HV := Lib.hid hv; clear hv)
    | (go_at_call 173; refine (chain_get_of HV.out HS.out.1 HS.out.2 _).mono ?_; rintro e w' ⟨⟨A1, c1, rfl, ho⟩, hf⟩))
  go_ret2
  exact ⟨⟨A1, c1, rfl, ho⟩, hf⟩
theorem store_last_nil (k : ByteArray) (w : World) : Calls Tryz.prog 136 #[.pointer none, .string k] w fun e w' => e = .returned (.int .i64 0) ∧ w' = w := by
  go_enter Tryz.func136, Tryz.ntmps136
  go_wp2_with (first
    | (go_at_call 172; refine (store_of_nil _ _).mono ?_; rintro e w' ⟨rfl, rfl⟩)
    | (go_at_call 181; refine (chain_last_nil _).mono ?_; rintro e w' ⟨rfl, rfl⟩))
  go_ret
  exact ⟨rfl, rfl⟩
theorem chain_last_of {w : World} {F : Nat → Prop} {s : Sto} {k : ByteArray} {v : Value} (hv : ChainOf w F s k v) :
    Calls Tryz.prog 181 #[v] w fun e w' => e = .returned (.int .i64 (s.last k)) ∧ w' = w := by
  rcases hv with ⟨hn, rfl⟩ | ⟨c, b, G, hc, rfl, hb, _⟩
  · rw [sto_last_none hn]; exact chain_last_nil w
  · rw [sto_last_some hc]; exact chain_last hb
theorem store_last {w : World} {F : Nat → Prop} {sb : Nat} {s : Sto} (h : StoreAt w F sb s) (k : ByteArray) :
    Calls Tryz.prog 136 #[.pointer (some ⟨sb, 0, none⟩), .string k] w fun e w' => e = .returned (.int .i64 (s.last k)) ∧ w' = w := by
  have hof := Lib.hid (store_of h k)
  go_enter Tryz.func136, Tryz.ntmps136
  go_wp2_with (first
    | (go_at_call 172; refine hof.out.mono ?_; rintro e w' ⟨v, rfl, hv, rfl⟩; have HV := Lib.hid hv; clear hv)
    | (go_at_call 181; refine (chain_last_of HV.out).mono ?_; rintro e w' ⟨rfl, rfl⟩))
  go_ret
  exact ⟨rfl, rfl⟩

theorem store_keys_nil (w : World) : Calls Tryz.prog 150 #[.pointer none] w fun e w' => e = .returned (.slice none 0 0) ∧ w' = w := by
  go_enter Tryz.func150, Tryz.ntmps150
  go_wp2
  go_ret
  exact ⟨rfl, rfl⟩
theorem store_keys {w : World} {F : Nat → Prop} {sb : Nat} {s : Sto} {m : Nat} (h : StoreAt w F sb s) (hs : s.Small m) (hm : m ≤ 100000000) :
    Calls Tryz.prog 150 #[.pointer (some ⟨sb, 0, none⟩)] w fun e w' => ∃ A c, e = .returned (.slice A s.kc.length c) ∧ Rd Ty.str w' (fun i => w.heap.size ≤ i) A (s.kc.map Prod.fst) ∧ s.kc.length ≤ c ∧ Fr No w w' := by
  obtain ⟨h1, mb, l, G, h2, h3, h4, h5, h6, h7⟩ := h
  have c0 := blk_cell h4 0
  have hc := keys_ok mb l (s.kc.map Prod.fst) w h5 h6.rising (fun k => by rw [h6.keys, look_none_iff]) (fun k hk' => by
    obtain ⟨p, hp, rfl⟩ := List.mem_map.1 hk'
    have := hs.ksz p hp
    unfold maxLen; omega) (by rw [List.length_map]; have := hs.keys; omega)
  have HC := Lib.hid hc
  clear h1 h2 h3 h4 h5 h6 h7 hc hs hm
  simp at c0
  go_enter Tryz.func150, Tryz.ntmps150
  go_wp2_with (first
    | (go_at_call 201; refine HC.out.1.mono ?_; rintro e w' ⟨rfl, rfl⟩)
    | (go_at_call 138; refine HC.out.2.mono ?_; rintro e w' ⟨A, c, rfl, ho, hf⟩))
  go_ret
  have hr := ho.rd
  rw [List.length_map] at hr
  exact ⟨A, c, rfl, hr.2.2, hr.2.1, hf⟩
end Go.Proofs.YtlmhphejgahfbaaGreatDoor
/- Layer 14 (tx): how a transaction lies in memory; New, Base, write. -/
set_option linter.unusedVariables false
set_option linter.unusedSimpArgs false
namespace Go.Proofs.YtlmhphejgahfbaaGreatDoor
open Go.RowKit

/-- A write as a value. -/
def WrIs (w : World) (F : Nat → Prop) (v : Value) (x : Wr) : Prop := ∃ A c, v = .agg #[.string x.key, .slice A x.row.length c, .bool x.gone] ∧ x.row.length ≤ c ∧ Rd Ty.u8 w F A x.row
theorem WrIs.stab {w w' : World} {F : Nat → Prop} {v : Value} {x : Wr} (h : WrIs w F v x) (k : ∀ k, F k → k < w.heap.size → w'.heap[k]? = w.heap[k]?) : WrIs w' F v x := by
  obtain ⟨A, c, e, h1, h2⟩ := h
  exact ⟨A, c, e, h1, h2.stab k⟩
theorem WrIs.mono {w : World} {F G : Nat → Prop} {v : Value} {x : Wr} (h : WrIs w F v x) (k : ∀ k, F k → k < w.heap.size → G k) : WrIs w G v x := by
  obtain ⟨A, c, e, h1, h2⟩ := h
  exact ⟨A, c, e, h1, h2.mono k⟩
/-- A map's values are the writes. -/
structure TxHeld (w : World) (F : Nat → Prop) (l : List (ByteArray × Value)) (ws : List Wr) : Prop where
  rising : Rising (ws.map Wr.key)
  none_ : ∀ k, wfind k ws = none → look k l = none
  some_ : ∀ k x, wfind k ws = some x → ∃ v, look k l = some v ∧ WrIs w F v x
section
variable {w w' : World} {F G : Nat → Prop} {l : List (ByteArray × Value)} {ws : List Wr}
theorem TxHeld.stab (h : TxHeld w F l ws) (k : ∀ k, F k → k < w.heap.size → w'.heap[k]? = w.heap[k]?) : TxHeld w' F l ws :=
  ⟨h.rising, h.none_, fun key x hx => by obtain ⟨v, h1, h2⟩ := h.some_ key x hx; exact ⟨v, h1, h2.stab k⟩⟩
theorem TxHeld.mono (h : TxHeld w F l ws) (k : ∀ k, F k → k < w.heap.size → G k) : TxHeld w G l ws :=
  ⟨h.rising, h.none_, fun key x hx => by obtain ⟨v, h1, h2⟩ := h.some_ key x hx; exact ⟨v, h1, h2.mono k⟩⟩
theorem TxHeld.look_iff (h : TxHeld w F l ws) (k : ByteArray) : look k l = none ↔ k ∉ ws.map Wr.key := by
  rw [← wfind_none]
  constructor
  · intro hl
    cases hx : wfind k ws with
    | none => rfl
    | some x => obtain ⟨v, h1, _⟩ := h.some_ k x hx; rw [hl] at h1; cases h1
  · exact h.none_ k
theorem TxHeld.len (h : TxHeld w F l ws) (hn : (l.map Prod.fst).Nodup) : l.length = ws.length := by
  have := (keys_perm h.rising hn h.look_iff).length_eq
  simpa using this
theorem TxHeld.put (h : TxHeld w F l ws) {v : Value} {x : Wr} (hx : WrIs w F v x) : TxHeld w F (lay x.key v l) (wput x ws) := by
  refine ⟨wput_rising h.rising, fun k hk => ?_, fun k y hy => ?_⟩
  · rw [wfind_wput h.rising] at hk
    rw [look_lay]
    split at hk
    · cases hk
    · rename_i e; rw [if_neg e]; exact h.none_ k hk
  · rw [wfind_wput h.rising] at hy
    rw [look_lay]
    split at hy
    · rename_i e; injection hy with hy; subst hy; rw [if_pos e]; exact ⟨v, rfl, hx⟩
    · rename_i e; rw [if_neg e]; exact h.some_ k y hy
end

/-- A transaction behind a pointer; F bounds all its blocks. -/
def TxAt (w : World) (F : Nat → Prop) (xb : Nat) (base : Int) (ws : List Wr) : Prop :=
  F xb ∧ ∃ mb l, F mb ∧ mb ≠ xb ∧ w.heap[xb]? = some (.cells #[.int .i64 base, .map (some mb)] 173 (0, 0)) ∧ MapIs w mb l ∧ TxHeld w (fun i => F i ∧ i ≠ xb ∧ i ≠ mb) l ws
section
variable {w w' : World} {F F' : Nat → Prop} {xb : Nat} {base : Int} {ws : List Wr}
theorem TxAt.stab (h : TxAt w F xb base ws) (k : ∀ k, F k → k < w.heap.size → w'.heap[k]? = w.heap[k]?) : TxAt w' F xb base ws := by
  obtain ⟨h1, mb, l, h2, h3, h4, h5, h6⟩ := h
  exact ⟨h1, mb, l, h2, h3, (k _ h1 (blk_lt h4)).trans h4, h5.stab (k _ h2 h5.lt), h6.stab fun i hi hl => k i hi.1 hl⟩
theorem TxAt.fr {S : Nat → Prop} (h : TxAt w F xb base ws) (f : Fr S w w') (hd : ∀ k, F k → ¬ S k) : TxAt w' F xb base ws := h.stab fun k hk hl => f.block k hl (hd k hk)
theorem TxAt.fr0 (h : TxAt w F xb base ws) (f : Fr No w w') : TxAt w' F xb base ws := h.stab fun k hk hl => f.block k hl (fun f => f)
theorem TxAt.mono (h : TxAt w F xb base ws) (k : ∀ k, F k → k < w.heap.size → F' k) : TxAt w F' xb base ws := by
  obtain ⟨h1, mb, l, h2, h3, h4, h5, h6⟩ := h
  exact ⟨k _ h1 (blk_lt h4), mb, l, k _ h2 h5.lt, h3, h4, h5, h6.mono fun i hi hl => ⟨k i hi.1 hl, hi.2⟩⟩
theorem TxAt.rising (h : TxAt w F xb base ws) : Rising (ws.map Wr.key) := by
  obtain ⟨h1, mb, l, h2, h3, h4, h5, h6⟩ := h
  exact h6.rising
end

theorem zero_wr (w : World) : (zeroValue 117).run Tryz.prog w = .ok (.agg #[.string ⟨#[]⟩, .slice none 0 0, .bool false]) w := by kernel_rfl

theorem tx_new (base : Int) (w : World) : Calls Tryz.prog 44 #[.int .i64 base] w fun e w' => ∃ b, e = .returned (.pointer (some ⟨b, 0, none⟩)) ∧ TxAt w' (fun k => w.heap.size ≤ k) b base [] ∧ Fr No w w' := by
  have hmm := @run_makeMap Tryz.prog
  go_enter Tryz.func44, Tryz.ntmps44
  go_wp2
  go_ret
  refine ⟨w.heap.size + 1, rfl, ⟨by omega, w.heap.size, [], Nat.le_refl _, by omega, ?_, ?_, ⟨List.Pairwise.nil, fun _ _ => rfl, fun k x h => by cases h⟩⟩, ((Fr.refl No w).alloc _).alloc _⟩
  · exact blk_two2 w _ _
  · exact (MapIs.new w).stab (Below.heap_alloc _ _ _ (by simp))
theorem tx_base_nil (w : World) : Calls Tryz.prog 152 #[.pointer none] w fun e w' => e = .returned (.int .i64 0) ∧ w' = w := by
  go_enter Tryz.func152, Tryz.ntmps152
  go_wp2
  go_ret
  exact ⟨rfl, rfl⟩
theorem tx_base {w : World} {F : Nat → Prop} {xb : Nat} {base : Int} {ws : List Wr} (h : TxAt w F xb base ws) : Calls Tryz.prog 152 #[.pointer (some ⟨xb, 0, none⟩)] w fun e w' => e = .returned (.int .i64 base) ∧ w' = w := by
  obtain ⟨h1, mb, l, h2, h3, h4, h5, h6⟩ := h
  have c0 := blk_cell h4 0
  clear h1 h2 h3 h4 h5 h6
  simp at c0
  go_enter Tryz.func152, Tryz.ntmps152
  go_wp2
  go_ret
  exact ⟨rfl, rfl⟩
theorem tx_write_nil (v : Value) (k : ByteArray) (A : Option Addr) (n c : Nat) (g : Bool) (w : World) (hv : v = .agg #[.string k, .slice A n c, .bool g]) : Calls Tryz.prog 99 #[.pointer none, v] w fun e w' => e = .returned (.int .i64 5) ∧ Fr No w w' := by
  subst hv
  go_enter Tryz.func99, Tryz.ntmps99
  go_wp2
  go_ret
  exact ⟨rfl, (Fr.refl No w).alloc _⟩
end Go.Proofs.YtlmhphejgahfbaaGreatDoor
