/- 'slices.Sorted(maps.Keys(m))' of a map of writes. -/
import Derived.Test.YtkcppngopdiljaaKeys
import Derived.Test.YtkcppngopdiljaaShelf
import Derived.Sort.KeysCollected
set_option linter.unusedVariables false
set_option linter.unusedSimpArgs false
namespace Go.Proofs.Ytkcppngopdiljaa
open Go.RowKit Go.Maps Go.Sort Go.Shelf Go.WideElems Go.WideShapes

set_option maxHeartbeats 1000000 in
/-- maps.Keys, and slices.Sorted of what it handed back. -/
theorem keysW_ok (b : Nat) (l : List (ByteArray × Value)) (ks : List ByteArray) (w : World) (h : MapIs w b l) (hr : Rising ks) (hks : ∀ k, look k l = none ↔ k ∉ ks) (hs : ∀ k ∈ ks, k.size ≤ maxLen) (hl : ks.length ≤ 1000000000) :
    (Calls Try.prog 33 #[.map (some b)] w fun e w' => e = .returned (.func (.func 54) #[] #[.pointer (some ⟨w.heap.size, 0, none⟩)]) ∧ w' = w.alloc (.cells #[.map (some b)] 73)) ∧
    Calls Try.prog 32 #[.func (.func 54) #[] #[.pointer (some ⟨w.heap.size, 0, none⟩)]] (w.alloc (.cells #[.map (some b)] 73)) fun e w' =>
      ∃ A c, e = .returned (.slice A ks.length c) ∧ Ow Ty.str 9 w' (fun i => w.heap.size ≤ i) (.slice A ks.length c) ks ∧ Fr No w w' := by
  have hp := keys_perm hr h.nodup hks
  have hlen : l.length = ks.length := by simpa using hp.length_eq
  have hsl : ∀ p ∈ l, p.1.size ≤ maxLen := fun p hp' => by
    refine hs p.1 ?_
    rcases Classical.em (p.1 ∈ ks) with hm | hm
    · exact hm
    · exact absurd (List.mem_map.2 ⟨p, hp', rfl⟩) (look_none_iff.1 ((hks p.1).2 hm))
  obtain ⟨D0, hown, hperm, hsz⟩ := h.owns (P := Try.prog) Try.underlying9 hsl (by unfold maxLen; omega)
  have hbl := hown.lt
  have hmax : Maps.size D0 ≤ maxLen := by rw [hsz]; unfold maxLen; omega
  refine ⟨callsIn_wide.1 (AnyZ.keys_in Try.keys33 Fence.wide 5 trivial rfl (some b) w), ?_⟩
  have hseq : SeqGives Fence.wide 2 Try.prog 54 #[.pointer (some ⟨w.heap.size, 0, none⟩)] encStr (fun ss => ss.Perm (strKeys D0)) (Maps.size D0) (w.alloc (.cells #[.map (some b)] 73)) :=
    AnyZ.keys_gives (ρ := Try.keys33_ren) { Try.keys33 with } Fence.wide _ trivial rfl (by omega) w.heap.size b l.length D0 _ (by simp) (by simp) (by
      obtain ⟨es, clock, hb, Ft, hs, hD⟩ := hown
      exact ⟨es, clock, (Below.heap_alloc _ _ b hbl).trans hb, Ft, hs, hD⟩)
  have hsorts : ∀ m, AnyZ.SortsIn Try.prog Try.sorted32_ren Fence.wide m := fun m =>
    ⟨fun blk off cap ss W hH hblk hsz => callsIn_wide.2 (AnyM.slices_Sort_string Try.sort53 blk off cap ss W hH hblk hsz), fun p cap W => callsIn_wide.2 (AnyM.slices_Sort_string_none Try.sort53 p cap W)⟩
  have hc := callsIn_wide.1 (AnyZ.sorted_in Try.sorted32 Fence.wide 5 trivial trivial trivial trivial rfl (by omega) (hsorts _) (enters_of Try.func53 (by kernel_rfl) rfl)
    54 #[.pointer (some ⟨w.heap.size, 0, none⟩)] trivial (enters_of Try.func54 (by kernel_rfl) rfl) _ _ hmax (by rw [hsz]; omega) _ hseq)
  refine hc.mono ?_
  rintro e w' ⟨v, ss, rfl, hS, hrow, hnil, hb⟩
  have hS2 : ss.Perm (ks.map fun k => k.data.toList) := (hS.trans hperm).trans hp
  rw [rising_sorted hr hS2] at hrow
  have hsl2 : ss.length = ks.length := by simpa using hS2.length_eq
  rw [hsl2] at hrow
  have hO : Ow Ty.str 9 w' (fun i => w.heap.size ≤ i) v ks := by
    refine ⟨ks.map Value.string, ⟨hrow.1, hrow.2.imp id ?_⟩, ?_, fun k hk => by have := (hrow.lt k hk).1; simp at this; omega⟩
    · rintro ⟨g, cap, cur, h1, h2, h3⟩; exact ⟨g, cap, cur, h1, Nat.zero_le _, h3⟩
    · clear hrow hnil hS2 hp hlen hks hr hs hl hsl2
      induction ks with
      | nil => rfl
      | cons k ks ih => exact ⟨[.string k], ks.map Value.string, rfl, rfl, ih⟩
  obtain ⟨A, c, rfl, _, _⟩ := hO.slice
  exact ⟨A, c, rfl, hO, ((Fr.refl No w).alloc _).trans ((Fr.below hb).mono fun _ _ f => f.elim)⟩
end Go.Proofs.Ytkcppngopdiljaa
