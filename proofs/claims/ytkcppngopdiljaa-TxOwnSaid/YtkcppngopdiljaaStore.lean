/- Layer 13 (store): how a store lies in memory. -/
import Derived.Test.YtkcppngopdiljaaSpec13
import Derived.Test.YtkcppngopdiljaaChain4
import Derived.Test.YtkcppngopdiljaaRight
set_option linter.unusedVariables false
set_option linter.unusedSimpArgs false
namespace Go.Proofs.Ytkcppngopdiljaa
open Go.RowKit

theorem slay_cons {β : Type} (k : ByteArray) (v : β) (p : ByteArray × β) (l : List (ByteArray × β)) : slay k v (p :: l) = if kl k p.1 then (k, v) :: p :: l else if k = p.1 then (k, v) :: l else p :: slay k v l := rfl
theorem slay_slay {β : Type} (k : ByteArray) (u v : β) (l : List (ByteArray × β)) : slay k v (slay k u l) = slay k v l := by
  induction l with
  | nil => simp [slay, kl_irrefl]
  | cons p l ih =>
    rw [slay_cons k u, slay_cons k v]
    by_cases h1 : kl k p.1 = true
    · rw [if_pos h1, if_pos h1, slay_cons]; simp [kl_irrefl]
    · rw [if_neg h1, if_neg h1]
      by_cases h2 : k = p.1
      · rw [if_pos h2, if_pos h2, slay_cons]; simp [kl_irrefl]
      · rw [if_neg h2, if_neg h2, slay_cons, if_neg h1, if_neg h2, ih]

/-- A map's pointers lead to chains, each apart from the others. -/
structure Held (w : World) (l : List (ByteArray × Value)) (kc : List (ByteArray × Chn)) (G : ByteArray → Nat → Prop) : Prop where
  rising : Rising (kc.map Prod.fst)
  keys : ∀ k, look k l = none ↔ look k kc = none
  at_ : ∀ k v c, look k l = some v → look k kc = some c → ∃ b, v = .pointer (some ⟨b, 0, none⟩) ∧ ChainAt w (G k) b c
  lt : ∀ k i, G k i → i < w.heap.size
  apart : ∀ k k' i, k ≠ k' → G k i → ¬ G k' i

section
variable {w w' : World} {l : List (ByteArray × Value)} {kc : List (ByteArray × Chn)} {G : ByteArray → Nat → Prop}
theorem Held.stab (h : Held w l kc G) (hs : w.heap.size ≤ w'.heap.size) (hk : ∀ k i, G k i → w'.heap[i]? = w.heap[i]?) : Held w' l kc G :=
  ⟨h.rising, h.keys, fun k v c h1 h2 => by
    obtain ⟨b, e, hc⟩ := h.at_ k v c h1 h2
    exact ⟨b, e, hc.stab fun i hi _ => hk k i hi⟩, fun k i hi => Nat.lt_of_lt_of_le (h.lt k i hi) hs, h.apart⟩
theorem Held.fr {S : Nat → Prop} (h : Held w l kc G) (f : Fr S w w') (hd : ∀ k i, G k i → ¬ S i) : Held w' l kc G := h.stab f.size fun k i hi => f.block i (h.lt k i hi) (hd k i hi)
theorem Held.fr0 (h : Held w l kc G) (f : Fr No w w') : Held w' l kc G := h.fr f fun _ _ _ f => f
/-- One chain is written. -/
theorem Held.turn (h : Held w l kc G) {k0 : ByteArray} {b : Nat} {c' : Chn} (hv : look k0 l = some (.pointer (some ⟨b, 0, none⟩))) (f : Fr (G k0) w w') (hc : ChainAt w' (fun i => G k0 i ∨ w.heap.size ≤ i) b c') :
    ∃ G', Held w' l (slay k0 c' kc) G' ∧ ∀ k i, G' k i → (∃ k', G k' i) ∨ w.heap.size ≤ i := by
  have hk0 : look k0 kc ≠ none := fun e => by rw [(h.keys k0).2 e] at hv; cases hv
  refine ⟨fun k i => if k = k0 then (G k0 i ∨ w.heap.size ≤ i) ∧ i < w'.heap.size else G k i, ⟨slay_rising h.rising, fun k => ?_, fun k v c h1 h2 => ?_, fun k i hi => ?_, fun k k' i hne hi => ?_⟩, fun k i hi => ?_⟩
  · rw [look_slay h.rising]
    split
    · rename_i e; subst e; rw [hv]; simp
    · exact h.keys k
  · rw [look_slay h.rising] at h2
    by_cases e : k = k0
    · subst e
      rw [if_pos rfl] at h2
      injection h2 with h2
      rw [hv] at h1
      injection h1 with h1
      subst h1; subst h2
      exact ⟨b, rfl, hc.mono fun i hi hl => by simp only [if_true]; exact ⟨hi, hl⟩⟩
    · rw [if_neg (fun e' => e e'.symm)] at h2
      obtain ⟨b', e', hc'⟩ := h.at_ k v c h1 h2
      refine ⟨b', e', ?_⟩
      simp only [if_neg e]
      exact hc'.fr f fun i hi hg => h.apart k k0 i e hi hg
  · split at hi
    · exact hi.2
    · exact Nat.lt_of_lt_of_le (h.lt k i hi) f.size
  · intro hi'
    split at hi <;> split at hi' <;> rename_i e1 e2
    · exact hne (e1.trans e2.symm)
    · rcases hi.1 with hg | hg
      · exact h.apart k0 k' i (fun e => e2 e.symm) hg hi'
      · have := h.lt k' i hi'; omega
    · rcases hi'.1 with hg | hg
      · exact h.apart k k0 i e1 hi hg
      · have := h.lt k i hi; omega
    · exact h.apart k k' i hne hi hi'
  · dsimp only at hi
    split at hi
    · rcases hi.1 with hg | hg
      · exact .inl ⟨k0, hg⟩
      · exact .inr hg
    · exact .inl ⟨k, hi⟩
/-- A key is new. -/
theorem Held.more (h : Held w l kc G) {k0 : ByteArray} {b : Nat} (hk : look k0 kc = none) (f : Fr No w w') (hc : ChainAt w' (fun i => w.heap.size ≤ i) b Chn.empty) :
    ∃ G', Held w' (lay k0 (.pointer (some ⟨b, 0, none⟩)) l) (slay k0 Chn.empty kc) G' ∧ ∀ k i, G' k i → (∃ k', G k' i) ∨ w.heap.size ≤ i := by
  refine ⟨fun k i => if k = k0 then w.heap.size ≤ i ∧ i < w'.heap.size else G k i, ⟨slay_rising h.rising, fun k => ?_, fun k v c h1 h2 => ?_, fun k i hi => ?_, fun k k' i hne hi => ?_⟩, fun k i hi => ?_⟩
  · rw [look_slay h.rising, look_lay]
    split
    · simp
    · exact h.keys k
  · rw [look_slay h.rising] at h2
    rw [look_lay] at h1
    by_cases e : k = k0
    · subst e
      rw [if_pos rfl] at h1 h2
      injection h2 with h2
      injection h1 with h1
      subst h1; subst h2
      exact ⟨b, rfl, hc.mono fun i hi hl => by simp only [if_true]; exact ⟨hi, hl⟩⟩
    · rw [if_neg (fun e' => e e'.symm)] at h1 h2
      obtain ⟨b', e', hc'⟩ := h.at_ k v c h1 h2
      refine ⟨b', e', ?_⟩
      simp only [if_neg e]
      exact hc'.fr0 f
  · split at hi
    · exact hi.2
    · exact Nat.lt_of_lt_of_le (h.lt k i hi) f.size
  · intro hi'
    split at hi <;> split at hi' <;> rename_i e1 e2
    · exact hne (e1.trans e2.symm)
    · have := h.lt k' i hi'; omega
    · have := h.lt k i hi; omega
    · exact h.apart k k' i hne hi hi'
  · dsimp only at hi
    split at hi
    · exact .inr hi.1
    · exact .inl ⟨k, hi⟩
end

/-- A store behind a pointer; F bounds all its blocks. -/
def StoreAt (w : World) (F : Nat → Prop) (sb : Nat) (s : Sto) : Prop :=
  F sb ∧ ∃ mb l G, F mb ∧ mb ≠ sb ∧ w.heap[sb]? = some (.cells #[.map (some mb), .int .i64 s.now] 91 (0, 0)) ∧ MapIs w mb l ∧ Held w l s.kc G ∧ ∀ k i, G k i → F i ∧ i ≠ sb ∧ i ≠ mb
theorem StoreAt.stab {w w' : World} {F : Nat → Prop} {sb : Nat} {s : Sto} (h : StoreAt w F sb s) (hs : w.heap.size ≤ w'.heap.size) (k : ∀ k, F k → k < w.heap.size → w'.heap[k]? = w.heap[k]?) : StoreAt w' F sb s := by
  obtain ⟨h1, mb, l, G, h2, h3, h4, h5, h6, h7⟩ := h
  exact ⟨h1, mb, l, G, h2, h3, (k _ h1 (blk_lt h4)).trans h4, h5.stab (k _ h2 h5.lt), h6.stab hs fun k' i hi => k i (h7 k' i hi).1 (h6.lt k' i hi), h7⟩
theorem StoreAt.fr {S : Nat → Prop} {w w' : World} {F : Nat → Prop} {sb : Nat} {s : Sto} (h : StoreAt w F sb s) (f : Fr S w w') (hd : ∀ k, F k → ¬ S k) : StoreAt w' F sb s := h.stab f.size fun k hk hl => f.block k hl (hd k hk)
theorem StoreAt.fr0 {w w' : World} {F : Nat → Prop} {sb : Nat} {s : Sto} (h : StoreAt w F sb s) (f : Fr No w w') : StoreAt w' F sb s := h.stab f.size fun k hk hl => f.block k hl (fun f => f)
theorem StoreAt.mono {w : World} {F F' : Nat → Prop} {sb : Nat} {s : Sto} (h : StoreAt w F sb s) (k : ∀ k, F k → k < w.heap.size → F' k) : StoreAt w F' sb s := by
  obtain ⟨h1, mb, l, G, h2, h3, h4, h5, h6, h7⟩ := h
  exact ⟨k _ h1 (blk_lt h4), mb, l, G, k _ h2 h5.lt, h3, h4, h5, h6, fun k' i hi => ⟨k i (h7 k' i hi).1 (h6.lt k' i hi), (h7 k' i hi).2⟩⟩
theorem StoreAt.rising {w : World} {F : Nat → Prop} {sb : Nat} {s : Sto} (h : StoreAt w F sb s) : Rising (s.kc.map Prod.fst) := by
  obtain ⟨h1, mb, l, G, h2, h3, h4, h5, h6, h7⟩ := h
  exact h6.rising

theorem store_new (w : World) : Calls Try.prog 19 #[] w fun e w' => ∃ b, e = .returned (.pointer (some ⟨b, 0, none⟩)) ∧ StoreAt w' (fun k => w.heap.size ≤ k) b Sto.empty ∧ Fr No w w' := by
  have hmm := @run_makeMap Try.prog
  go_enter Try.func19, Try.ntmps19
  go_wp2
  go_ret
  refine ⟨w.heap.size + 1, rfl, ⟨by omega, w.heap.size, [], fun _ _ => False, Nat.le_refl _, by omega, ?_, ?_, ⟨List.Pairwise.nil, fun k => ⟨fun _ => rfl, fun _ => rfl⟩, (fun k v c h => by cases h), (fun k i h => h.elim), (fun k k' i _ h => h.elim)⟩, (fun k i h => h.elim)⟩, ((Fr.refl No w).alloc _).alloc _⟩
  · have := heap_alloc_new (w.alloc (.map #[] 0)) (.cells #[.map (some w.heap.size), .int .i64 0] 91)
    rw [World.size_alloc] at this
    exact this
  · exact (MapIs.new w).stab (Below.heap_alloc _ _ _ (by simp))
end Go.Proofs.Ytkcppngopdiljaa
