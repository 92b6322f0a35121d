/- Layer 13 (store): Trim. -/
import Derived.Test.YtehlfcdipoognaaStore4
set_option linter.unusedVariables false
set_option linter.unusedSimpArgs false
namespace Go.Proofs.Ytehlfcdipoognaa
open Go.RowKit

theorem slay_at {β : Type} {l : List (ByteArray × β)} (h : Rising (l.map Prod.fst)) {j : Nat} {k : ByteArray} {v0 v : β} (hj : l[j]? = some (k, v0)) : slay k v l = l.set j (k, v) := by
  induction l generalizing j with
  | nil => simp at hj
  | cons p l ih =>
    obtain ⟨h1, h2⟩ := List.pairwise_cons.1 h
    rw [slay_cons]
    cases j with
    | zero =>
      obtain rfl : p = (k, v0) := by simpa using hj
      rw [if_neg (by simp [kl_irrefl]), if_pos rfl]
      rfl
    | succ j =>
      have hj' : l[j]? = some (k, v0) := by simpa using hj
      have hk := h1 k (List.mem_map.2 ⟨_, List.mem_of_getElem? hj', rfl⟩)
      rw [if_neg (by rw [kl_asymm hk]; simp), if_neg (fun e => kl_ne hk e.symm), ih h2 hj']
      rfl

namespace Sto
/-- k chains are trimmed. -/
def trimK (s : Sto) (a : Int) (k : Nat) : List (ByteArray × Chn) := (s.kc.take k).map (fun p => (p.1, p.2.trim a)) ++ s.kc.drop k
theorem trimK_zero (s : Sto) (a : Int) : s.trimK a 0 = s.kc := by simp [trimK]
theorem trimK_all (s : Sto) (a : Int) : s.trimK a s.kc.length = (s.trim a).kc := by simp [trimK, trim]
theorem trimK_keys (s : Sto) (a : Int) (k : Nat) : (s.trimK a k).map Prod.fst = s.kc.map Prod.fst := by
  unfold trimK
  rw [List.map_append, List.map_map]
  have : (Prod.fst ∘ fun p : ByteArray × Chn => (p.1, p.2.trim a)) = Prod.fst := rfl
  rw [this, ← List.map_append, List.take_append_drop]
theorem trimK_at {s : Sto} {a : Int} {k : Nat} (hk : k < s.kc.length) : (s.trimK a k)[k]? = some s.kc[k] := by
  unfold trimK
  rw [List.getElem?_append_right (by simp; omega)]
  simp [Nat.min_eq_left (Nat.le_of_lt hk), hk]
theorem trimK_succ {s : Sto} {a : Int} {k : Nat} (hk : k < s.kc.length) : (s.trimK a k).set k (s.kc[k].1, s.kc[k].2.trim a) = s.trimK a (k + 1) := by
  unfold trimK
  rw [List.take_succ_eq_append_getElem hk, List.map_append, List.append_assoc]
  rw [List.set_append, if_neg (by simp; omega)]
  congr 1
  rw [List.length_map, List.length_take, Nat.min_eq_left (Nat.le_of_lt hk), Nat.sub_self, List.drop_eq_getElem_cons hk]
  rfl
end Sto

/-- What the loop holds at a round's head. -/
structure TrimInv (w w1 : World) (F : Nat → Prop) (sb mb : Nat) (l : List (ByteArray × Value)) (s : Sto) (a : Int) (k n : Nat) (wr : World) : Prop where
  le : k ≤ s.kc.length
  sum : n = ((s.kc.map fun p => p.2.cut a).take k).sum
  blk : wr.heap[sb]? = some (.cells #[.map (some mb), .int .i64 s.now] 79 (0, 0))
  mp : MapIs wr mb l
  held : ∃ G, Held wr l (s.trimK a k) G ∧ ∀ k i, G k i → ((F i ∧ i < w.heap.size) ∨ w1.heap.size ≤ i) ∧ i ≠ sb ∧ i ≠ mb
  fr : Fr (fun i => F i ∧ i < w.heap.size) w1 wr

set_option maxHeartbeats 1000000 in
theorem store_trim {w : World} {F : Nat → Prop} {sb : Nat} {s : Sto} {m : Nat} (h : StoreAt w F sb s) (hs : s.Small m) (hm : m ≤ 100000000) (a : Int) :
    Calls Try.prog 26 #[.pointer (some ⟨sb, 0, none⟩), .int .i64 a] w fun e w' => e = .returned (.int .i64 (s.cut a)) ∧ StoreAt w' (fun i => F i ∨ w.heap.size ≤ i) sb (s.trim a) ∧ Fr F w w' := by
  have hk := store_keys h hs hm
  have hkl : (s.kc.length : Int) ≤ 100000000 := by have := hs.keys; omega
  have hcutle : ∀ c : Chn, c.cut a ≤ c.l.length := fun c => by
    have := seen_le c a
    unfold Chn.cut
    split
    · split
      · omega
      · split <;> omega
    · omega
  have hsum : s.cut a ≤ 10000000000000000 := by
    have := sum_le (s.kc.map fun p => p.2.cut a) 100000000 (fun x hx => by
      obtain ⟨p, hp, rfl⟩ := List.mem_map.1 hx
      have := (hs.chains p hp).1
      have := hcutle p.2
      omega)
    rw [List.length_map] at this
    unfold Sto.cut; omega
  have hr0 := h.rising
  obtain ⟨h1, mb, l, G, h2, h3, h4, h5, h6, h7⟩ := h
  have hlt0 : sb < w.heap.size ∧ mb < w.heap.size := ⟨blk_lt h4, h5.lt⟩
  have HH := Lib.hid (And.intro hk (And.intro (And.intro h1 (And.intro h2 (And.intro h4 (And.intro h5 (And.intro h6 h7))))) (And.intro hs (And.intro hm (And.intro hr0 (And.intro hlt0 h3))))))
  clear hk hs hm hr0 h1 h2 h3 h4 h5 h6 h7 hlt0 hcutle
  go_enter Try.func26, Try.ntmps26
  go_wp2_with (go_at_call 29; refine HH.out.1.mono ?_; rintro e w1 ⟨A, c, rfl, hr, hc, hf1⟩; have HR := Lib.hid (And.intro (hr.mono fun i hi hl => (⟨hi, hl⟩ : w.heap.size ≤ i ∧ i < w1.heap.size)) hf1); clear hr hf1)
  go_loopw [5, 11] (fun v i wr => ∃ (k n : Nat), v = .int .i64 n ∧ i = .int .i64 k ∧ Hid (TrimInv w w1 F sb mb l s a k n wr)) (fun _ i _ => s.kc.length - (intOf i).toNat)
  case atStart =>
    obtain ⟨h1, h2, h4, h5, h6, h7⟩ := HH.out.2.1
    refine ⟨0, 0, rfl, rfl, ⟨Nat.zero_le _, by simp, HR.out.2.blk h4 (fun f => f), h5.stab (HR.out.2.block _ h5.lt (fun f => f)), ⟨G, by rw [Sto.trimK_zero]; exact h6.fr0 HR.out.2, fun k i hi => ⟨.inl ⟨(h7 k i hi).1, h6.lt k i hi⟩, (h7 k i hi).2⟩⟩, Fr.refl _ _⟩⟩
  case round =>
    obtain ⟨k, n, rfl, rfl, I⟩ := hrel
    by_cases hlt : k < s.kc.length
    · obtain ⟨ad, rfl, x0⟩ := str_at (HR.out.1.stab (w' := wr) fun i hi hl => I.out.fr.block i hl fun hf => by have := hf.2; have := hi.1; omega) (i := k) (by simpa using hlt)
      obtain ⟨G', hG, hGF⟩ := I.out.held
      have c0 := blk_cell I.out.blk 0
      have hat := Sto.trimK_at (a := a) hlt
      have hrk : Rising ((s.trimK a k).map Prod.fst) := hG.rising
      have hlk : look s.kc[k].1 (s.trimK a k) = some s.kc[k].2 := look_of_mem hrk.nodup (List.mem_of_getElem? hat)
      obtain ⟨v, hv⟩ : ∃ v, look s.kc[k].1 l = some v := by
        cases hl : look s.kc[k].1 l with
        | none => rw [(hG.keys _).1 hl] at hlk; cases hlk
        | some v => exact ⟨v, rfl⟩
      obtain ⟨b, rfl, hb⟩ := hG.at_ _ _ _ hv hlk
      have hrun := (run_map_look (P := Try.prog) I.out.mp 77 _ _ Try.underlying77 Try.underlying9 _ (zero_chain wr) s.kc[k].1).1
      rw [hv, Option.getD_some] at hrun
      have hsm : s.kc[k].2.l.length ≤ m := (HH.out.2.2.1.chains _ (List.getElem_mem hlt)).1
      have htr := chain_trim (a := a) hb (by have := HH.out.2.2.2.1; omega)
      have hst := sum_take (l := s.kc.map fun p => p.2.cut a) (k := k) (by simpa using hlt)
      rw [List.getElem_map] at hst x0
      have hle := sum_take_le (s.kc.map fun p => p.2.cut a) (k + 1)
      rw [hst] at hle
      have hnb : (n : Int) + (s.kc[k].2.cut a : Int) ≤ 10000000000000000 := by
        have e := I.out.sum
        have : n + s.kc[k].2.cut a ≤ s.cut a := by rw [e]; exact hle
        omega
      have next : ∀ w2, ChainAt w2 (fun i => G' s.kc[k].1 i ∨ wr.heap.size ≤ i) b (s.kc[k].2.trim a) → Fr (G' s.kc[k].1) wr w2 → TrimInv w w1 F sb mb l s a (k + 1) (n + s.kc[k].2.cut a) w2 := by
        intro w2 hc hf
        obtain ⟨G2, hG2, hsub⟩ := hG.turn hv hf hc
        rw [slay_at (k := s.kc[k].1) (v0 := s.kc[k].2) hrk hat, Sto.trimK_succ hlt] at hG2
        have hlt0 := HH.out.2.2.2.2.2.1
        have h1s : w.heap.size ≤ w1.heap.size := HR.out.2.size
        have h2s := I.out.fr.size
        refine ⟨by omega, by rw [hst, ← I.out.sum], hf.blk I.out.blk (fun h => (hGF _ _ h).2.1 rfl), I.out.mp.stab (hf.block _ I.out.mp.lt (fun h => (hGF _ _ h).2.2 rfl)), ⟨G2, hG2, fun k' i hi => ?_⟩, I.out.fr.trans (hf.mono fun i _ hi => ?_)⟩
        · rcases hsub k' i hi with ⟨k'', h⟩ | h
          · exact hGF k'' i h
          · exact ⟨.inr (by omega), by omega, by omega⟩
        · exact (hGF _ _ hi).1
      have HL := Lib.hid (And.intro htr next)
      clear hat hrk hlk hv hb htr hst hle hsm next hG hGF
      simp at c0
      generalize hky : s.kc[k].1 = ky at *
      generalize hln : s.kc[k].2.cut a = ln at *
      clear hky hln
      have hk0 : (0 : Int) ≤ (k : Int) := Int.natCast_nonneg _
      have hk1 : (k : Int) < (s.kc.length : Int) := by omega
      have hn0 : (0 : Int) ≤ (n : Int) := Int.natCast_nonneg _
      have hl0 : (0 : Int) ≤ (ln : Int) := Int.natCast_nonneg _
      go_wp2_with (go_at_call 43; refine HL.out.1.mono ?_; rintro e w2 ⟨rfl, hc2, hf2⟩; have H2 := Lib.hid (And.intro hc2 hf2); clear hc2 hf2)
      go_roundw
      case rel => exact ⟨k + 1, n + ln, by go_num, by go_num, HL.out.2 w2 H2.out.1 H2.out.2⟩
      case measure => simp [intOf]; omega
    · obtain rfl : k = s.kc.length := by have := I.out.le; omega
      have e : n = s.cut a := by
        have e := I.out.sum
        have h2 : (s.kc.map fun p => p.2.cut a).take s.kc.length = s.kc.map fun p => p.2.cut a := List.take_of_length_le (by simp)
        rw [h2] at e
        exact e
      have E := Lib.hid e
      clear e
      go_wp2
      go_ret
      obtain ⟨h1, h2, h4, h5, h6, h7⟩ := HH.out.2.1
      obtain ⟨G', hG, hGF⟩ := I.out.held
      rw [Sto.trimK_all] at hG
      have h1s : w.heap.size ≤ w1.heap.size := HR.out.2.size
      refine ⟨by rw [← E.out]; rfl, ⟨.inl h1, mb, l, G', .inl h2, HH.out.2.2.2.2.2.2, I.out.blk, I.out.mp, hG, fun k i hi => ⟨?_, (hGF k i hi).2⟩⟩, (HR.out.2.mono fun _ _ f => f.elim).trans (I.out.fr.mono fun i _ hi => .inl hi.1)⟩
      rcases (hGF k i hi).1 with h | h
      · exact .inl h.1
      · exact .inr (by omega)
theorem store_trim_nil (a : Int) (w : World) : Calls Try.prog 26 #[.pointer none, .int .i64 a] w fun e w' => e = .returned (.int .i64 0) ∧ w' = w := by
  go_enter Try.func26, Try.ntmps26
  go_wp2_with (go_at_call 29; refine (store_keys_nil _).mono ?_; rintro e w1 ⟨rfl, rfl⟩)
  refine wp_loop_rounds 1 ?_; rw [rounds_succ]
  go_wp2
  go_ret
  exact ⟨rfl, rfl⟩
theorem store_scan_nil (a most : Int) (lo hi : ByteArray) (w : World) : Calls Try.prog 13 #[.pointer none, .int .i64 a, .string lo, .string hi, .int .i64 most] w fun e w' => e = .returned (.slice none 0 0) ∧ w' = w := by
  go_enter Try.func13, Try.ntmps13
  go_wp2_with (go_at_call 29; refine (store_keys_nil _).mono ?_; rintro e w1 ⟨rfl, rfl⟩)
  refine wp_loop_rounds 1 ?_; rw [rounds_succ]
  go_wp2
  go_ret
  exact ⟨rfl, rfl⟩
end Go.Proofs.Ytehlfcdipoognaa
