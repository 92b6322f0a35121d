/- Texts of this claim, one behind the other: Right, Store, Keys. -/
import Derived.Test.YtlmhphejgahfbaaGreatDoorProg
import Derived.Test.YtlmhphejgahfbaaGreatDoorMrowledgernil4
import Derived.Deep.QuietTactic
import Derived.BigQuiet
import Derived.Test.YtlmhphejgahfbaaGreatDoorMrowledgernil5
import Derived.Test.YtlmhphejgahfbaaGreatDoorMrowledgernil19
import Derived.Test.YtlmhphejgahfbaaGreatDoorShelf2
import Derived.Test.YtlmhphejgahfbaaGreatDoorShelf
import Derived.Sort.KeysCollected
/- Layer 6 (record): may a batch be? -/
set_option linter.unusedVariables false
set_option linter.unusedSimpArgs false
namespace Go.Proofs.YtlmhphejgahfbaaGreatDoor
open Go.RowKit

set_option maxHeartbeats 1000000 in
theorem fits_ok {w : World} (k last : ByteArray) (g : Bool) (A : Option Addr) (c : Nat) (r : Bs) (hk : k.size ≤ 9223372036854775807) (hr : r.length ≤ 9223372036854775807) :
    Calls Tryz.prog 195 #[.agg #[.string k, .slice A r.length c, .bool g], .string last] w fun e w' => e = .returned (.bool (fits ⟨k, r, g⟩ last)) ∧ Fr No w w' := by
  have hf : fits ⟨k, r, g⟩ last = (decide (1 ≤ k.size) && decide (k.size ≤ 4000) && decide (r.length ≤ 4000) && (!(Op.bytesLess k.toList last.toList || k.toList == last.toList)) && (!g || decide (r.length = 0))) := by
    rw [kl_not]; rfl
  rw [hf]
  clear hf
  generalize r.length = n at *
  have e0 : decide (n = 0) = ((n : Int) == 0) := by rw [Bool.eq_iff_iff]; simp
  rw [e0]
  clear e0
  have hn0 : (0 : Int) ≤ (n : Int) := Int.natCast_nonneg _
  have hk0 : (0 : Int) ≤ (k.size : Int) := Int.natCast_nonneg _
  have HF := Lib.hid ((Fr.refl No w).alloc (.cells #[.string k, .slice A n c, .bool g] 117))
  by_cases h1 : 1 ≤ k.size
  · by_cases h2 : k.size ≤ 4000
    · by_cases h3 : n ≤ 4000
      · cases h4 : Op.bytesLess k.toList last.toList <;> cases h5 : (k.toList == last.toList)
        · cases g
          · go_enter Tryz.func195, Tryz.ntmps195
            go_wp2
            all_goals (go_ret; exact ⟨by simp [*], HF.out⟩)
          · cases h6 : ((n : Int) == 0)
            all_goals
              go_enter Tryz.func195, Tryz.ntmps195
              go_wp2
              all_goals (go_ret; exact ⟨by simp [*], HF.out⟩)
        all_goals
          go_enter Tryz.func195, Tryz.ntmps195
          go_wp2
          all_goals (go_ret; exact ⟨by simp [*], HF.out⟩)
      · go_enter Tryz.func195, Tryz.ntmps195
        go_wp2
        all_goals (go_ret; exact ⟨by simp [*], HF.out⟩)
    · go_enter Tryz.func195, Tryz.ntmps195
      go_wp2
      all_goals (go_ret; exact ⟨by simp [*], HF.out⟩)
  · go_enter Tryz.func195, Tryz.ntmps195
    go_wp2
    all_goals (go_ret; exact ⟨by simp [*], HF.out⟩)

/-- Each element's cells, wherever the loop stands. -/
theorem wr_at {w : World} {F : Nat → Prop} {A : Option Addr} {ws : List Wr} (h : Rd tWr w F A ws) {i : Nat} (hi : i < ws.length) :
    ∃ ad A' c', A = some ad ∧ w.cell? (ad.add (i * 3)) = some (.string ws[i].key) ∧ w.cell? ⟨(ad.add (i * 3)).block, (ad.add (i * 3)).off + 1, none⟩ = some (.slice A' ws[i].row.length c') ∧
      w.cell? ⟨(ad.add (i * 3)).block, (ad.add (i * 3)).off + 2, none⟩ = some (.bool ws[i].gone) ∧ ws[i].row.length ≤ c' ∧ Rd Ty.u8 w F A' ws[i].row := by
  obtain ⟨ad, cs, e, hk, e0, e1⟩ := h.get' hi (by decide)
  obtain ⟨A', c', rfl, h1, h2⟩ := tWr_open hk
  exact ⟨ad, A', c', e, e0 _ rfl, e1 1 _ (by decide) rfl, e1 2 _ (by decide) rfl, h1, h2⟩
def lastKey (last : ByteArray) (l : List Wr) : ByteArray := (l.getLast?.map Wr.key).getD last
theorem allFit_take {last : ByteArray} {l : List Wr} {i : Nat} (hi : i < l.length) : allFit last (l.take (i + 1)) = (allFit last (l.take i) && fits l[i] (lastKey last (l.take i))) := by
  rw [List.take_succ_eq_append_getElem hi, allFit_append]; rfl
theorem allFit_prefix {last : ByteArray} {l : List Wr} (i : Nat) (h : allFit last l = true) : allFit last (l.take i) = true := by
  induction l generalizing last i with
  | nil => simpa using h
  | cons y l ih =>
    cases i with
    | zero => rfl
    | succ i => simp only [allFit, Bool.and_eq_true, List.take_succ_cons] at h ⊢; exact ⟨h.1, ih _ h.2⟩
theorem lastKey_take {last : ByteArray} {l : List Wr} {i : Nat} (hi : i < l.length) : lastKey last (l.take (i + 1)) = l[i].key := by
  unfold lastKey; rw [List.take_succ_eq_append_getElem hi, List.getLast?_concat]; rfl

set_option maxHeartbeats 1000000 in
theorem right_ok {w : World} {F : Nat → Prop} (n : Int) (A : Option Addr) (c : Nat) (ws : List Wr) (h : Rd tWr w F A ws) (hl : ws.length ≤ 1000000000) (hk : ∀ x ∈ ws, x.key.size ≤ 9223372036854775807) :
    Calls Tryz.prog 143 #[.agg #[.int .i64 n, .slice A ws.length c]] w fun e w' => e = .returned (.bool (right n ws)) ∧ Fr No w w' := by
  have HR := Lib.hid h
  have HK := Lib.hid hk
  clear h hk
  go_enter Tryz.func143, Tryz.ntmps143
  go_wp2
  go_loopw [3, 9] (fun last i wr => ∃ k : Nat, k ≤ ws.length ∧ i = .int .i64 k ∧ last = .string (lastKey ⟨#[]⟩ (ws.take k)) ∧ Hid (allFit ⟨#[]⟩ (ws.take k) = true) ∧ Hid (Fr No (w.alloc (.cells #[.int .i64 n, .slice A ws.length c] 69)) wr)) (fun _ i _ => ws.length - (intOf i).toNat)
  case atStart => exact ⟨0, Nat.zero_le _, rfl, rfl, rfl, Fr.refl _ _⟩
  case round =>
    obtain ⟨k, hk, rfl, rfl, ha, hf⟩ := hrel
    have hb1 : wr.cell? ⟨w.heap.size, 1, none⟩ = some (.slice A ws.length c) := hf.out.cell (by simp) (fun f => f)
    have hb0 : wr.cell? ⟨w.heap.size, 0, none⟩ = some (.int .i64 n) := hf.out.cell (by simp) (fun f => f)
    have hwr : Fr No w wr := (((Fr.refl No w).alloc _).trans (hf.out.mono fun _ _ f => f.elim))
    have hn1 : (ws.length : Int) ≤ 1000000000 := by omega
    by_cases hlt : k < ws.length
    · obtain ⟨ad, A', c', rfl, x0, x1, x2, _, hrd⟩ := wr_at (HR.out.fr0 hwr) hlt
      have hrow : ws[k].row.length ≤ 9223372036854775807 := hrd.1
      have hfit := allFit_take (last := ⟨#[]⟩) hlt
      rw [ha.out, Bool.true_and] at hfit
      have hkey := lastKey_take (last := ⟨#[]⟩) hlt
      have hsz := HK.out _ (List.getElem_mem hlt)
      obtain ⟨x, hx⟩ : ∃ x, ws[k] = x := ⟨_, rfl⟩
      rw [hx] at x0 x1 x2 hfit hkey hsz hrow
      have hk0 : (0 : Int) ≤ (k : Int) := Int.natCast_nonneg _
      have hk1 : (k : Int) < (ws.length : Int) := by omega
      have HFit := Lib.hid (And.intro hfit (And.intro hkey hwr))
      clear hfit hkey hx hwr hrd
      cases hfx : fits x (lastKey ⟨#[]⟩ (ws.take k))
      · have hno : Hid (right n ws = false) := by
          have : allFit ⟨#[]⟩ ws = false := by
            cases hA : allFit ⟨#[]⟩ ws with
            | false => rfl
            | true => have := allFit_prefix (k + 1) hA; rw [HFit.out.1, hfx] at this; cases this
          show _ = _
          unfold right
          rw [this]; rfl
        go_wp2_with (go_at_call 195; refine (fits_ok _ _ _ _ _ _ hsz hrow).mono ?_; rintro e w1 ⟨rfl, hf1⟩; rw [show (⟨x.key, x.row, x.gone⟩ : Wr) = x from rfl, hfx])
        go_ret
        exact ⟨by rw [hno.out]; rfl, (HFit.out.2.2.alloc _).trans (hf1.mono fun _ _ f => f.elim)⟩
      · go_wp2_with (go_at_call 195; refine (fits_ok _ _ _ _ _ _ hsz hrow).mono ?_; rintro e w1 ⟨rfl, hf1⟩; rw [show (⟨x.key, x.row, x.gone⟩ : Wr) = x from rfl, hfx]
                     have hb5 : w1.cell? ⟨wr.heap.size, 0, none⟩ = some (.string x.key) := hf1.cell (by simp) (fun f => f))
        go_roundw
        case rel => exact ⟨k + 1, by omega, by go_num, by rw [HFit.out.2.1], by show _ = _; rw [HFit.out.1]; exact hfx, (hf.out.alloc _).trans (hf1.mono fun _ _ f => f.elim)⟩
        case measure => simp [intOf]; omega
    · obtain rfl : k = ws.length := by omega
      rw [List.take_length] at ha
      have hr : Hid (right n ws = (decide (1 ≤ n) && decide (1 ≤ ws.length) && decide (ws.length ≤ 64))) := by
        show _ = _
        unfold right
        rw [ha.out, Bool.true_and]
      by_cases h1 : 1 ≤ n
      · by_cases h2 : 1 ≤ ws.length
        · go_wp2
          go_ret
          exact ⟨by rw [hr.out, decide_eq_true h1, decide_eq_true h2]; simp; omega, hwr⟩
        · go_wp2
          go_ret
          exact ⟨by rw [hr.out, decide_eq_true h1, decide_eq_false h2]; rfl, hwr⟩
      · go_wp2
        go_ret
        exact ⟨by rw [hr.out, decide_eq_false (show ¬ 1 ≤ n by omega)]; rfl, hwr⟩
end Go.Proofs.YtlmhphejgahfbaaGreatDoor
/- Layer 13 (store): how a store lies in memory. -/
set_option linter.unusedVariables false
set_option linter.unusedSimpArgs false
namespace Go.Proofs.YtlmhphejgahfbaaGreatDoor
open Go.RowKit

theorem slay_cons {β : Type} (k : ByteArray) (v : β) (p : ByteArray × β) (l : List (ByteArray × β)) : slay k v (p :: l) = if kl k p.1 then (k, v) :: p :: l else if k = p.1 then (k, v) :: l else p :: slay k v l := rfl
theorem slay_slay {β : Type} (k : ByteArray) (u v : β) (l : List (ByteArray × β)) : slay k v (slay k u l) = slay k v l := by
  induction l with
  | nil => simp [slay, kl_irrefl]
  | cons p l ih =>
    rw [slay_cons k u, slay_cons k v]
    by_cases h1 : kl k p.1 = true
    · rw [if_pos h1, if_pos h1, slay_cons]; simp [kl_irrefl]
    · rw [if_neg h1, if_neg h1]
      by_cases h2 : k = p.1
      · rw [if_pos h2, if_pos h2, slay_cons]; simp [kl_irrefl]
      · rw [if_neg h2, if_neg h2, slay_cons, if_neg h1, if_neg h2, ih]

/-- A map's pointers lead to chains, each apart from the others. -/
structure Held (w : World) (l : List (ByteArray × Value)) (kc : List (ByteArray × Chn)) (G : ByteArray → Nat → Prop) : Prop where
  rising : Rising (kc.map Prod.fst)
  keys : ∀ k, look k l = none ↔ look k kc = none
  at_ : ∀ k v c, look k l = some v → look k kc = some c → ∃ b, v = .pointer (some ⟨b, 0, none⟩) ∧ ChainAt w (G k) b c
  lt : ∀ k i, G k i → i < w.heap.size
  apart : ∀ k k' i, k ≠ k' → G k i → ¬ G k' i

section
variable {w w' : World} {l : List (ByteArray × Value)} {kc : List (ByteArray × Chn)} {G : ByteArray → Nat → Prop}
theorem Held.stab (h : Held w l kc G) (hs : w.heap.size ≤ w'.heap.size) (hk : ∀ k i, G k i → w'.heap[i]? = w.heap[i]?) : Held w' l kc G :=
  ⟨h.rising, h.keys, fun k v c h1 h2 => by
    obtain ⟨b, e, hc⟩ := h.at_ k v c h1 h2
    exact ⟨b, e, hc.stab fun i hi _ => hk k i hi⟩, fun k i hi => Nat.lt_of_lt_of_le (h.lt k i hi) hs, h.apart⟩
theorem Held.fr {S : Nat → Prop} (h : Held w l kc G) (f : Fr S w w') (hd : ∀ k i, G k i → ¬ S i) : Held w' l kc G := h.stab f.size fun k i hi => f.block i (h.lt k i hi) (hd k i hi)
theorem Held.fr0 (h : Held w l kc G) (f : Fr No w w') : Held w' l kc G := h.fr f fun _ _ _ f => f
/-- One chain is written. -/
theorem Held.turn (h : Held w l kc G) {k0 : ByteArray} {b : Nat} {c' : Chn} (hv : look k0 l = some (.pointer (some ⟨b, 0, none⟩))) (f : Fr (G k0) w w') (hc : ChainAt w' (fun i => G k0 i ∨ w.heap.size ≤ i) b c') :
    ∃ G', Held w' l (slay k0 c' kc) G' ∧ ∀ k i, G' k i → (∃ k', G k' i) ∨ w.heap.size ≤ i := by
  have hk0 : look k0 kc ≠ none := fun e => by rw [(h.keys k0).2 e] at hv; cases hv
  refine ⟨fun k i => if k = k0 then (G k0 i ∨ w.heap.size ≤ i) ∧ i < w'.heap.size else G k i, ⟨slay_rising h.rising, fun k => ?_, fun k v c h1 h2 => ?_, fun k i hi => ?_, fun k k' i hne hi => ?_⟩, fun k i hi => ?_⟩
  · rw [look_slay h.rising]
    split
    · rename_i e; subst e; rw [hv]; simp
    · exact h.keys k
  · rw [look_slay h.rising] at h2
    by_cases e : k = k0
    · subst e
      rw [if_pos rfl] at h2
      injection h2 with h2
      rw [hv] at h1
      injection h1 with h1
      subst h1; subst h2
      exact ⟨b, rfl, hc.mono fun i hi hl => by simp only [if_true]; exact ⟨hi, hl⟩⟩
    · rw [if_neg (fun e' => e e'.symm)] at h2
      obtain ⟨b', e', hc'⟩ := h.at_ k v c h1 h2
      refine ⟨b', e', ?_⟩
      simp only [if_neg e]
      exact hc'.fr f fun i hi hg => h.apart k k0 i e hi hg
  · split at hi
    · exact hi.2
    · exact Nat.lt_of_lt_of_le (h.lt k i hi) f.size
  · intro hi'
    split at hi <;> split at hi' <;> rename_i e1 e2
    · exact hne (e1.trans e2.symm)
    · rcases hi.1 with hg | hg
      · exact h.apart k0 k' i (fun e => e2 e.symm) hg hi'
      · have := h.lt k' i hi'; omega
    · rcases hi'.1 with hg | hg
      · exact h.apart k k0 i e1 hi hg
      · have := h.lt k i hi; omega
    · exact h.apart k k' i hne hi hi'
  · dsimp only at hi
    split at hi
    · rcases hi.1 with hg | hg
      · exact .inl ⟨k0, hg⟩
      · exact .inr hg
    · exact .inl ⟨k, hi⟩
/-- A key is new. -/
theorem Held.more (h : Held w l kc G) {k0 : ByteArray} {b : Nat} (hk : look k0 kc = none) (f : Fr No w w') (hc : ChainAt w' (fun i => w.heap.size ≤ i) b Chn.empty) :
    ∃ G', Held w' (lay k0 (.pointer (some ⟨b, 0, none⟩)) l) (slay k0 Chn.empty kc) G' ∧ ∀ k i, G' k i → (∃ k', G k' i) ∨ w.heap.size ≤ i := by
  refine ⟨fun k i => if k = k0 then w.heap.size ≤ i ∧ i < w'.heap.size else G k i, ⟨slay_rising h.rising, fun k => ?_, fun k v c h1 h2 => ?_, fun k i hi => ?_, fun k k' i hne hi => ?_⟩, fun k i hi => ?_⟩
  · rw [look_slay h.rising, look_lay]
    split
    · simp
    · exact h.keys k
  · rw [look_slay h.rising] at h2
    rw [look_lay] at h1
    by_cases e : k = k0
    · subst e
      rw [if_pos rfl] at h1 h2
      injection h2 with h2
      injection h1 with h1
      subst h1; subst h2
      exact ⟨b, rfl, hc.mono fun i hi hl => by simp only [if_true]; exact ⟨hi, hl⟩⟩
    · rw [if_neg (fun e' => e e'.symm)] at h1 h2
      obtain ⟨b', e', hc'⟩ := h.at_ k v c h1 h2
      refine ⟨b', e', ?_⟩
      simp only [if_neg e]
      exact hc'.fr0 f
  · split at hi
    · exact hi.2
    · exact Nat.lt_of_lt_of_le (h.lt k i hi) f.size
  · intro hi'
    split at hi <;> split at hi' <;> rename_i e1 e2
    · exact hne (e1.trans e2.symm)
    · have := h.lt k' i hi'; omega
    · have := h.lt k i hi; omega
    · exact h.apart k k' i hne hi hi'
  · dsimp only at hi
    split at hi
    · exact .inr hi.1
    · exact .inl ⟨k, hi⟩
end

/-- A store behind a pointer; F bounds all its blocks. -/
def StoreAt (w : World) (F : Nat → Prop) (sb : Nat) (s : Sto) : Prop :=
  F sb ∧ ∃ mb l G, F mb ∧ mb ≠ sb ∧ w.heap[sb]? = some (.cells #[.map (some mb), .int .i64 s.now] 159 (0, 0)) ∧ MapIs w mb l ∧ Held w l s.kc G ∧ ∀ k i, G k i → F i ∧ i ≠ sb ∧ i ≠ mb
theorem StoreAt.stab {w w' : World} {F : Nat → Prop} {sb : Nat} {s : Sto} (h : StoreAt w F sb s) (hs : w.heap.size ≤ w'.heap.size) (k : ∀ k, F k → k < w.heap.size → w'.heap[k]? = w.heap[k]?) : StoreAt w' F sb s := by
  obtain ⟨h1, mb, l, G, h2, h3, h4, h5, h6, h7⟩ := h
  exact ⟨h1, mb, l, G, h2, h3, (k _ h1 (blk_lt h4)).trans h4, h5.stab (k _ h2 h5.lt), h6.stab hs fun k' i hi => k i (h7 k' i hi).1 (h6.lt k' i hi), h7⟩
theorem StoreAt.fr {S : Nat → Prop} {w w' : World} {F : Nat → Prop} {sb : Nat} {s : Sto} (h : StoreAt w F sb s) (f : Fr S w w') (hd : ∀ k, F k → ¬ S k) : StoreAt w' F sb s := h.stab f.size fun k hk hl => f.block k hl (hd k hk)
theorem StoreAt.fr0 {w w' : World} {F : Nat → Prop} {sb : Nat} {s : Sto} (h : StoreAt w F sb s) (f : Fr No w w') : StoreAt w' F sb s := h.stab f.size fun k hk hl => f.block k hl (fun f => f)
theorem StoreAt.mono {w : World} {F F' : Nat → Prop} {sb : Nat} {s : Sto} (h : StoreAt w F sb s) (k : ∀ k, F k → k < w.heap.size → F' k) : StoreAt w F' sb s := by
  obtain ⟨h1, mb, l, G, h2, h3, h4, h5, h6, h7⟩ := h
  exact ⟨k _ h1 (blk_lt h4), mb, l, G, k _ h2 h5.lt, h3, h4, h5, h6, fun k' i hi => ⟨k i (h7 k' i hi).1 (h6.lt k' i hi), (h7 k' i hi).2⟩⟩
theorem StoreAt.rising {w : World} {F : Nat → Prop} {sb : Nat} {s : Sto} (h : StoreAt w F sb s) : Rising (s.kc.map Prod.fst) := by
  obtain ⟨h1, mb, l, G, h2, h3, h4, h5, h6, h7⟩ := h
  exact h6.rising

theorem store_new (w : World) : Calls Tryz.prog 40 #[] w fun e w' => ∃ b, e = .returned (.pointer (some ⟨b, 0, none⟩)) ∧ StoreAt w' (fun k => w.heap.size ≤ k) b Sto.empty ∧ Fr No w w' := by
  have hmm := @run_makeMap Tryz.prog
  go_enter Tryz.func40, Tryz.ntmps40
  go_wp2
  go_ret
  refine ⟨w.heap.size + 1, rfl, ⟨by omega, w.heap.size, [], fun _ _ => False, Nat.le_refl _, by omega, ?_, ?_, ⟨List.Pairwise.nil, fun k => ⟨fun _ => rfl, fun _ => rfl⟩, (fun k v c h => by cases h), (fun k i h => h.elim), (fun k k' i _ h => h.elim)⟩, (fun k i h => h.elim)⟩, ((Fr.refl No w).alloc _).alloc _⟩
  · have := heap_alloc_new (w.alloc (.map #[] 0)) (.cells #[.map (some w.heap.size), .int .i64 0] 159)
    rw [World.size_alloc] at this
    exact this
  · exact (MapIs.new w).stab (Below.heap_alloc _ _ _ (by simp))
end Go.Proofs.YtlmhphejgahfbaaGreatDoor
/- 'slices.Sorted(maps.Keys(m))' of a map keyed by texts: its keys, rising, in new memory. -/
set_option linter.unusedVariables false
set_option linter.unusedSimpArgs false
namespace Go.Proofs.YtlmhphejgahfbaaGreatDoor
open Go.RowKit Go.Maps Go.Sort Go.Shelf Go.WideElems Go.WideShapes

/-- Whatever a value is: the keys alone are asked. -/
def AnyElem : Value → Option (DataW Unit × List MemPlace) := fun _ => some (.lit (.bool false), [])
theorem MapIs.owns {P : Program} {w : World} {b : Nat} {l : List (ByteArray × Value)} {kt : TypeId} (h : MapIs w b l) (hk : P.underlying kt = some .string) (hs : ∀ p ∈ l, p.1.size ≤ maxLen) (hl : l.length ≤ maxLen) :
    ∃ D : DataW Unit, w.ownsMap P kt AnyElem b l.length D ∧ (strKeys D).Perm (l.map fun p => p.1.data.toList) ∧ Maps.size D = l.length := by
  obtain ⟨es, c, hb, he⟩ := h
  have hrd : ∀ (x : MapEntry) (s : ByteArray), x.key = .string s → s.size ≤ maxLen → WideElems.rd (H := Unit) P kt AnyElem x = some (.string s.data.toList, .lit (.bool false)) := fun x s hx hsz => by
    unfold WideElems.rd
    simp [keyOf, hk, mapKey, hx, hsz, AnyElem]
  have hkey : ∀ x ∈ es.toList, ∃ p ∈ l, x.key = .string p.1 := fun x hx => by
    obtain ⟨j, hj⟩ := List.getElem?_of_mem hx
    obtain ⟨p, hp, h1, _⟩ := he.at hj
    exact ⟨p, List.mem_of_getElem? hp, h1⟩
  have hrg : es.toList.map (rg (H := Unit) P kt AnyElem) = l.map fun p => (Lit.string p.1.data.toList, DataW.lit (.bool false)) := by
    apply List.ext_getElem?
    intro j
    simp only [List.getElem?_map]
    cases hj : es.toList[j]? with
    | none =>
      have : l[j]? = none := by
        rw [List.getElem?_eq_none_iff] at hj ⊢
        have := he.size
        simp at hj; omega
      rw [this]; rfl
    | some x =>
      obtain ⟨p, hp, h1, _⟩ := he.at hj
      rw [hp]
      simp only [Option.map_some, Option.some.injEq]
      unfold rg
      rw [hrd x p.1 h1 (hs p (List.mem_of_getElem? hp))]
      rfl
  refine ⟨_, ⟨es, c, hb, ⟨by rw [he.size]; exact hl, he.st, fun x hx => ?_⟩, by rw [he.size]; exact Nat.le_refl _, rfl⟩, ?_, ?_⟩
  · obtain ⟨p, hp, h1⟩ := hkey x hx
    exact ⟨_, hrd x p.1 h1 (hs p hp)⟩
  · show ((List.foldr DataW.insert [] _).map fun p => strOf p.1).Perm _
    rw [hrg]
    have h1 := (sorted_perm (H := Unit) (l.map fun p => (Lit.string p.1.data.toList, DataW.lit (.bool false)))).map fun p => strOf p.1
    simpa [List.map_map, Function.comp_def, strOf] using h1
  · show (List.foldr DataW.insert [] _).length = _
    rw [hrg, (sorted_perm _).length_eq, List.length_map]

theorem rising_sorted {ks : List ByteArray} (h : Rising ks) {ss : List (List UInt8)} (hp : ss.Perm (ks.map fun k => k.data.toList)) : (ss.mergeSort (fun x y => decide (x ≤ y))).map encStr = ks.map Value.string := by
  have h1 : ss.mergeSort leB = (ks.map fun k => k.data.toList).mergeSort leB := mergeSort_of_perm hp
  have h2 : (ks.map fun k => k.data.toList).mergeSort leB = ks.map fun k => k.data.toList := by
    refine List.mergeSort_of_pairwise (List.pairwise_map.2 (List.Pairwise.imp (fun {a b} hab => ?_) h))
    rw [kl_eq, toList_data, toList_data] at hab
    exact decide_eq_true (List.le_of_lt (of_decide_eq_true hab))
  show (ss.mergeSort leB).map encStr = _
  rw [h1, h2, List.map_map]
  apply List.map_congr_left
  intro k _
  simp [encStr, Function.comp]

theorem keys_perm {ks : List ByteArray} {l : List (ByteArray × Value)} (hr : Rising ks) (hn : (l.map Prod.fst).Nodup) (h : ∀ k, look k l = none ↔ k ∉ ks) : (l.map fun p => p.1.data.toList).Perm (ks.map fun k => k.data.toList) := by
  have : (l.map Prod.fst).Perm ks := (List.perm_ext_iff_of_nodup hn hr.nodup).2 fun k => by
    have := h k
    rw [look_none_iff] at this
    exact ⟨fun h => Classical.byContradiction fun hn => this.2 hn h, fun h => Classical.byContradiction fun hn => this.1 hn h⟩
  simpa [List.map_map, Function.comp_def] using this.map fun k : ByteArray => k.data.toList

set_option maxHeartbeats 1000000 in
/-- maps.Keys, and slices.Sorted of what it handed back. -/
theorem keys_ok (b : Nat) (l : List (ByteArray × Value)) (ks : List ByteArray) (w : World) (h : MapIs w b l) (hr : Rising ks) (hks : ∀ k, look k l = none ↔ k ∉ ks) (hs : ∀ k ∈ ks, k.size ≤ maxLen) (hl : ks.length ≤ 1000000000) :
    (Calls Tryz.prog 201 #[.map (some b)] w fun e w' => e = .returned (.func (.func 231) #[] #[.pointer (some ⟨w.heap.size, 0, none⟩)]) ∧ w' = w.alloc (.cells #[.map (some b)] 157)) ∧
    Calls Tryz.prog 138 #[.func (.func 231) #[] #[.pointer (some ⟨w.heap.size, 0, none⟩)]] (w.alloc (.cells #[.map (some b)] 157)) fun e w' =>
      ∃ A c, e = .returned (.slice A ks.length c) ∧ Ow Ty.str 9 w' (fun i => w.heap.size ≤ i) (.slice A ks.length c) ks ∧ Fr No w w' := by
  have hp := keys_perm hr h.nodup hks
  have hlen : l.length = ks.length := by simpa using hp.length_eq
  have hsl : ∀ p ∈ l, p.1.size ≤ maxLen := fun p hp' => by
    refine hs p.1 ?_
    rcases Classical.em (p.1 ∈ ks) with hm | hm
    · exact hm
    · exact absurd (List.mem_map.2 ⟨p, hp', rfl⟩) (look_none_iff.1 ((hks p.1).2 hm))
  obtain ⟨D0, hown, hperm, hsz⟩ := h.owns (P := Tryz.prog) Tryz.underlying9 hsl (by unfold maxLen; omega)
  have hbl := hown.lt
  have hmax : Maps.size D0 ≤ maxLen := by rw [hsz]; unfold maxLen; omega
  refine ⟨callsIn_wide.1 (AnyZ.keys_in Tryz.keys201 Fence.wide 5 trivial rfl (some b) w), ?_⟩
  have hseq : SeqGives Fence.wide 2 Tryz.prog 231 #[.pointer (some ⟨w.heap.size, 0, none⟩)] encStr (fun ss => ss.Perm (strKeys D0)) (Maps.size D0) (w.alloc (.cells #[.map (some b)] 157)) :=
    AnyZ.keys_gives (ρ := Tryz.keys201_ren) { Tryz.keys201 with } Fence.wide _ trivial rfl (by omega) w.heap.size b l.length D0 _ (by simp) (by simp) (by
      obtain ⟨es, clock, hb, Ft, hs, hD⟩ := hown
      exact ⟨es, clock, (Below.heap_alloc _ _ b hbl).trans hb, Ft, hs, hD⟩)
  have hsorts : ∀ m, AnyZ.SortsIn Tryz.prog Tryz.sorted138_ren Fence.wide m := fun m =>
    ⟨fun blk off cap ss W hH hblk hsz => callsIn_wide.2 (AnyM.slices_Sort_string Tryz.sort183 blk off cap ss W hH hblk hsz), fun p cap W => callsIn_wide.2 (AnyM.slices_Sort_string_none Tryz.sort183 p cap W)⟩
  have hc := callsIn_wide.1 (AnyZ.sorted_in Tryz.sorted138 Fence.wide 5 trivial trivial trivial trivial rfl (by omega) (hsorts _) (enters_of Tryz.func183 (by kernel_rfl) rfl)
    231 #[.pointer (some ⟨w.heap.size, 0, none⟩)] trivial (enters_of Tryz.func231 (by kernel_rfl) rfl) _ _ hmax (by rw [hsz]; omega) _ hseq)
  refine hc.mono ?_
  rintro e w' ⟨v, ss, rfl, hS, hrow, hnil, hb⟩
  have hS2 : ss.Perm (ks.map fun k => k.data.toList) := (hS.trans hperm).trans hp
  rw [rising_sorted hr hS2] at hrow
  have hsl2 : ss.length = ks.length := by simpa using hS2.length_eq
  rw [hsl2] at hrow
  have hO : Ow Ty.str 9 w' (fun i => w.heap.size ≤ i) v ks := by
    refine ⟨ks.map Value.string, ⟨hrow.1, hrow.2.imp id ?_⟩, ?_, fun k hk => by have := (hrow.lt k hk).1; simp at this; omega⟩
    · rintro ⟨g, cap, cur, h1, h2, h3⟩; exact ⟨g, cap, cur, h1, Nat.zero_le _, h3⟩
    · clear hrow hnil hS2 hp hlen hks hr hs hl hsl2
      induction ks with
      | nil => rfl
      | cons k ks ih => exact ⟨[.string k], ks.map Value.string, rfl, rfl, ih⟩
  obtain ⟨A, c, rfl, _, _⟩ := hO.slice
  exact ⟨A, c, rfl, hO, ((Fr.refl No w).alloc _).trans ((Fr.below hb).mono fun _ _ f => f.elim)⟩
end Go.Proofs.YtlmhphejgahfbaaGreatDoor
