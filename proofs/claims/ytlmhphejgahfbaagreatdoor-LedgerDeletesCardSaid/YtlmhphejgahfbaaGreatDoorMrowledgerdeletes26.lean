/- Texts of this claim, one behind the other: Store5, Store6, Pub. -/
import Derived.Test.YtlmhphejgahfbaaGreatDoorMrowledgerdeletes25
import Derived.StillTailTactics
import Derived.Deep.RegionHeld3
/- Layer 13 (store): Trim. -/
set_option linter.unusedVariables false
set_option linter.unusedSimpArgs false
namespace Go.Proofs.YtlmhphejgahfbaaGreatDoor
open Go.RowKit

theorem slay_at {β : Type} {l : List (ByteArray × β)} (h : Rising (l.map Prod.fst)) {j : Nat} {k : ByteArray} {v0 v : β} (hj : l[j]? = some (k, v0)) : slay k v l = l.set j (k, v) := by
  induction l generalizing j with
  | nil => simp at hj
  | cons p l ih =>
    obtain ⟨h1, h2⟩ := List.pairwise_cons.1 h
    rw [slay_cons]
    cases j with
    | zero =>
      obtain rfl : p = (k, v0) := by simpa using hj
      rw [if_neg (by simp [kl_irrefl]), if_pos rfl]
      rfl
    | succ j =>
      have hj' : l[j]? = some (k, v0) := by simpa using hj
      have hk := h1 k (List.mem_map.2 ⟨_, List.mem_of_getElem? hj', rfl⟩)
      rw [if_neg (by rw [kl_asymm hk]; simp), if_neg (fun e => kl_ne hk e.symm), ih h2 hj']
      rfl

namespace Sto
/-- k chains are trimmed. -/
def trimK (s : Sto) (a : Int) (k : Nat) : List (ByteArray × Chn) := (s.kc.take k).map (fun p => (p.1, p.2.trim a)) ++ s.kc.drop k
theorem trimK_zero (s : Sto) (a : Int) : s.trimK a 0 = s.kc := by simp [trimK]
theorem trimK_all (s : Sto) (a : Int) : s.trimK a s.kc.length = (s.trim a).kc := by simp [trimK, trim]
theorem trimK_keys (s : Sto) (a : Int) (k : Nat) : (s.trimK a k).map Prod.fst = s.kc.map Prod.fst := by
  unfold trimK
  rw [List.map_append, List.map_map]
  have : (Prod.fst ∘ fun p : ByteArray × Chn => (p.1, p.2.trim a)) = Prod.fst := rfl
  rw [this, ← List.map_append, List.take_append_drop]
theorem trimK_at {s : Sto} {a : Int} {k : Nat} (hk : k < s.kc.length) : (s.trimK a k)[k]? = some s.kc[k] := by
  unfold trimK
  rw [List.getElem?_append_right (by simp; omega)]
  simp [Nat.min_eq_left (Nat.le_of_lt hk), hk]
theorem trimK_succ {s : Sto} {a : Int} {k : Nat} (hk : k < s.kc.length) : (s.trimK a k).set k (s.kc[k].1, s.kc[k].2.trim a) = s.trimK a (k + 1) := by
  unfold trimK
  rw [List.take_succ_eq_append_getElem hk, List.map_append, List.append_assoc]
  rw [List.set_append, if_neg (by simp; omega)]
  congr 1
  rw [List.length_map, List.length_take, Nat.min_eq_left (Nat.le_of_lt hk), Nat.sub_self, List.drop_eq_getElem_cons hk]
  rfl
end Sto

/-- What the loop holds at a round's head. -/
structure TrimInv (w w1 : World) (F : Nat → Prop) (sb mb : Nat) (l : List (ByteArray × Value)) (s : Sto) (a : Int) (k n : Nat) (wr : World) : Prop where
  le : k ≤ s.kc.length
  sum : n = ((s.kc.map fun p => p.2.cut a).take k).sum
  blk : wr.heap[sb]? = some (.cells #[.map (some mb), .int .i64 s.now] 159 (0, 0))
  mp : MapIs wr mb l
  held : ∃ G, Held wr l (s.trimK a k) G ∧ ∀ k i, G k i → ((F i ∧ i < w.heap.size) ∨ w1.heap.size ≤ i) ∧ i ≠ sb ∧ i ≠ mb
  fr : Fr (fun i => F i ∧ i < w.heap.size) w1 wr

set_option maxHeartbeats 1000000 in
theorem store_trim {w : World} {F : Nat → Prop} {sb : Nat} {s : Sto} {m : Nat} (h : StoreAt w F sb s) (hs : s.Small m) (hm : m ≤ 100000000) (a : Int) :
    Calls Tryz.prog 80 #[.pointer (some ⟨sb, 0, none⟩), .int .i64 a] w fun e w' => e = .returned (.int .i64 (s.cut a)) ∧ StoreAt w' (fun i => F i ∨ w.heap.size ≤ i) sb (s.trim a) ∧ Fr F w w' := by
  have hk := store_keys h hs hm
  have hkl : (s.kc.length : Int) ≤ 100000000 := by have := hs.keys; omega
  have hcutle : ∀ c : Chn, c.cut a ≤ c.l.length := fun c => by
    have := seen_le c a
    unfold Chn.cut
    split
    · split
      · omega
      · split <;> omega
    · omega
  have hsum : s.cut a ≤ 10000000000000000 := by
    have := sum_le (s.kc.map fun p => p.2.cut a) 100000000 (fun x hx => by
      obtain ⟨p, hp, rfl⟩ := List.mem_map.1 hx
      have := (hs.chains p hp).1
      have := hcutle p.2
      omega)
    rw [List.length_map] at this
    unfold Sto.cut; omega
  have hr0 := h.rising
  obtain ⟨h1, mb, l, G, h2, h3, h4, h5, h6, h7⟩ := h
  have hlt0 : sb < w.heap.size ∧ mb < w.heap.size := ⟨blk_lt h4, h5.lt⟩
  have HH := Lib.hid (And.intro hk (And.intro (And.intro h1 (And.intro h2 (And.intro h4 (And.intro h5 (And.intro h6 h7))))) (And.intro hs (And.intro hm (And.intro hr0 (And.intro hlt0 h3))))))
  clear hk hs hm hr0 h1 h2 h3 h4 h5 h6 h7 hlt0 hcutle
  go_enter Tryz.func80, Tryz.ntmps80
  go_wp2_with (go_at_call 150; refine HH.out.1.mono ?_; rintro e w1 ⟨A, c, rfl, hr, hc, hf1⟩; have HR := Lib.hid (And.intro (hr.mono fun i hi hl => (⟨hi, hl⟩ : w.heap.size ≤ i ∧ i < w1.heap.size)) hf1); clear hr hf1)
  go_loopw [5, 11] (fun v i wr => ∃ (k n : Nat), v = .int .i64 n ∧ i = .int .i64 k ∧ Hid (TrimInv w w1 F sb mb l s a k n wr)) (fun _ i _ => s.kc.length - (intOf i).toNat)
  case atStart =>
    obtain ⟨h1, h2, h4, h5, h6, h7⟩ := HH.out.2.1
    refine ⟨0, 0, rfl, rfl, ⟨Nat.zero_le _, by simp, HR.out.2.blk h4 (fun f => f), h5.stab (HR.out.2.block _ h5.lt (fun f => f)), ⟨G, by rw [Sto.trimK_zero]; exact h6.fr0 HR.out.2, fun k i hi => ⟨.inl ⟨(h7 k i hi).1, h6.lt k i hi⟩, (h7 k i hi).2⟩⟩, Fr.refl _ _⟩⟩
  case round =>
    obtain ⟨k, n, rfl, rfl, I⟩ := hrel
    by_cases hlt : k < s.kc.length
    · obtain ⟨ad, rfl, x0⟩ := str_at (HR.out.1.stab (w' := wr) fun i hi hl => I.out.fr.block i hl fun hf => by have := hf.2; have := hi.1; omega) (i := k) (by simpa using hlt)
      obtain ⟨G', hG, hGF⟩ := I.out.held
      have c0 := blk_cell I.out.blk 0
      have hat := Sto.trimK_at (a := a) hlt
      have hrk : Rising ((s.trimK a k).map Prod.fst) := hG.rising
      have hlk : look s.kc[k].1 (s.trimK a k) = some s.kc[k].2 := look_of_mem hrk.nodup (List.mem_of_getElem? hat)
      obtain ⟨v, hv⟩ : ∃ v, look s.kc[k].1 l = some v := by
        cases hl : look s.kc[k].1 l with
        | none => rw [(hG.keys _).1 hl] at hlk; cases hlk
        | some v => exact ⟨v, rfl⟩
      obtain ⟨b, rfl, hb⟩ := hG.at_ _ _ _ hv hlk
      have hrun := (run_map_look (P := Tryz.prog) I.out.mp 157 _ _ Tryz.underlying157 Tryz.underlying9 _ (zero_chain wr) s.kc[k].1).1
      rw [hv, Option.getD_some] at hrun
      have hsm : s.kc[k].2.l.length ≤ m := (HH.out.2.2.1.chains _ (List.getElem_mem hlt)).1
      have htr := chain_trim (a := a) hb (by have := HH.out.2.2.2.1; omega)
      have hst := sum_take (l := s.kc.map fun p => p.2.cut a) (k := k) (by simpa using hlt)
      rw [List.getElem_map] at hst x0
      have hle := sum_take_le (s.kc.map fun p => p.2.cut a) (k + 1)
      rw [hst] at hle
      have hnb : (n : Int) + (s.kc[k].2.cut a : Int) ≤ 10000000000000000 := by
        have e := I.out.sum
        have : n + s.kc[k].2.cut a ≤ s.cut a := by rw [e]; exact hle
        omega
      have next : ∀ w2, ChainAt w2 (fun i => G' s.kc[k].1 i ∨ wr.heap.size ≤ i) b (s.kc[k].2.trim a) → Fr (G' s.kc[k].1) wr w2 → TrimInv w w1 F sb mb l s a (k + 1) (n + s.kc[k].2.cut a) w2 := by
        intro w2 hc hf
        obtain ⟨G2, hG2, hsub⟩ := hG.turn hv hf hc
        rw [slay_at (k := s.kc[k].1) (v0 := s.kc[k].2) hrk hat, Sto.trimK_succ hlt] at hG2
        have hlt0 := HH.out.2.2.2.2.2.1
        have h1s : w.heap.size ≤ w1.heap.size := HR.out.2.size
        have h2s := I.out.fr.size
        refine ⟨by omega, by rw [hst, ← I.out.sum], hf.blk I.out.blk (fun h => (hGF _ _ h).2.1 rfl), I.out.mp.stab (hf.block _ I.out.mp.lt (fun h => (hGF _ _ h).2.2 rfl)), ⟨G2, hG2, fun k' i hi => ?_⟩, I.out.fr.trans (hf.mono fun i _ hi => ?_)⟩
        · rcases hsub k' i hi with ⟨k'', h⟩ | h
          · exact hGF k'' i h
          · exact ⟨.inr (by omega), by omega, by omega⟩
        · exact (hGF _ _ hi).1
      have HL := Lib.hid (And.intro htr next)
      clear hat hrk hlk hv hb htr hst hle hsm next hG hGF
      simp at c0
      generalize hky : s.kc[k].1 = ky at *
      generalize hln : s.kc[k].2.cut a = ln at *
      clear hky hln
      have hk0 : (0 : Int) ≤ (k : Int) := Int.natCast_nonneg _
      have hk1 : (k : Int) < (s.kc.length : Int) := by omega
      have hn0 : (0 : Int) ≤ (n : Int) := Int.natCast_nonneg _
      have hl0 : (0 : Int) ≤ (ln : Int) := Int.natCast_nonneg _
      go_wp2_with (go_at_call 151; refine HL.out.1.mono ?_; rintro e w2 ⟨rfl, hc2, hf2⟩; have H2 := Lib.hid (And.intro hc2 hf2); clear hc2 hf2)
      go_roundw
      case rel => exact ⟨k + 1, n + ln, by go_num, by go_num, HL.out.2 w2 H2.out.1 H2.out.2⟩
      case measure => simp [intOf]; omega
    · obtain rfl : k = s.kc.length := by have := I.out.le; omega
      have e : n = s.cut a := by
        have e := I.out.sum
        have h2 : (s.kc.map fun p => p.2.cut a).take s.kc.length = s.kc.map fun p => p.2.cut a := List.take_of_length_le (by simp)
        rw [h2] at e
        exact e
      have E := Lib.hid e
      clear e
      go_wp2
      go_ret
      obtain ⟨h1, h2, h4, h5, h6, h7⟩ := HH.out.2.1
      obtain ⟨G', hG, hGF⟩ := I.out.held
      rw [Sto.trimK_all] at hG
      have h1s : w.heap.size ≤ w1.heap.size := HR.out.2.size
      refine ⟨by rw [← E.out]; rfl, ⟨.inl h1, mb, l, G', .inl h2, HH.out.2.2.2.2.2.2, I.out.blk, I.out.mp, hG, fun k i hi => ⟨?_, (hGF k i hi).2⟩⟩, (HR.out.2.mono fun _ _ f => f.elim).trans (I.out.fr.mono fun i _ hi => .inl hi.1)⟩
      rcases (hGF k i hi).1 with h | h
      · exact .inl h.1
      · exact .inr (by omega)
theorem store_trim_nil (a : Int) (w : World) : Calls Tryz.prog 80 #[.pointer none, .int .i64 a] w fun e w' => e = .returned (.int .i64 0) ∧ w' = w := by
  go_enter Tryz.func80, Tryz.ntmps80
  go_wp2_with (go_at_call 150; refine (store_keys_nil _).mono ?_; rintro e w1 ⟨rfl, rfl⟩)
  refine wp_loop_rounds 1 ?_; rw [rounds_succ]
  go_wp2
  go_ret
  exact ⟨rfl, rfl⟩
theorem store_scan_nil (a most : Int) (lo hi : ByteArray) (w : World) : Calls Tryz.prog 120 #[.pointer none, .int .i64 a, .string lo, .string hi, .int .i64 most] w fun e w' => e = .returned (.slice none 0 0) ∧ w' = w := by
  go_enter Tryz.func120, Tryz.ntmps120
  go_wp2_with (go_at_call 150; refine (store_keys_nil _).mono ?_; rintro e w1 ⟨rfl, rfl⟩)
  refine wp_loop_rounds 1 ?_; rw [rounds_succ]
  go_wp2
  go_ret
  exact ⟨rfl, rfl⟩
end Go.Proofs.YtlmhphejgahfbaaGreatDoor
/- Layer 13 (store): Apply. -/
set_option linter.unusedVariables false
set_option linter.unusedSimpArgs false
namespace Go.Proofs.YtlmhphejgahfbaaGreatDoor
open Go.RowKit

theorem put1_put {n : Int} {kc : List (ByteArray × Chn)} {x : Wr} (h : look x.key kc = none) : slay x.key (Chn.empty.put n x.row x.gone) (slay x.key Chn.empty kc) = Sto.put1 n kc x := by
  rw [slay_slay]; unfold Sto.put1; rw [h]; rfl
theorem put1_some {n : Int} {kc : List (ByteArray × Chn)} {x : Wr} {c : Chn} (h : look x.key kc = some c) : slay x.key (c.put n x.row x.gone) kc = Sto.put1 n kc x := by
  unfold Sto.put1; rw [h]; rfl
theorem allFit_rising {last : ByteArray} {l : List Wr} (h : allFit last l = true) : Rising (l.map Wr.key) ∧ ∀ x ∈ l, kl last x.key = true := by
  induction l generalizing last with
  | nil => exact ⟨List.Pairwise.nil, fun x hx => by cases hx⟩
  | cons y l ih =>
    simp only [allFit, Bool.and_eq_true] at h
    obtain ⟨h1, h2⟩ := ih h.2
    have hy : kl last y.key = true := by
      have := h.1
      simp only [fits, Bool.and_eq_true] at this
      exact this.1.2
    refine ⟨List.pairwise_cons.2 ⟨fun k hk => ?_, h1⟩, fun x hx => ?_⟩
    · obtain ⟨x, hx, rfl⟩ := List.mem_map.1 hk
      exact h2 x hx
    · rcases List.mem_cons.1 hx with rfl | hx
      · exact hy
      · exact kl_trans hy (h2 x hx)
/-- What stands in the lists while a batch is laid in. -/
structure KcOk (n : Int) (m : Nat) (kc : List (ByteArray × Chn)) : Prop where
  rising : Rising (kc.map Prod.fst)
  keys : kc.length ≤ m
  ksz : ∀ p ∈ kc, p.1.size ≤ 4000
  chains : ∀ p ∈ kc, p.2.l.length ≤ m ∧ p.2.last ≤ n ∧ ∀ v ∈ p.2.l, v.row.length ≤ 4000
theorem put1_ok {n : Int} {m : Nat} {kc : List (ByteArray × Chn)} (h : KcOk n m kc) {x : Wr} (h0 : 0 ≤ n) (h1 : x.key.size ≤ 4000) (h2 : x.row.length ≤ 4000) : KcOk n (m + 1) (Sto.put1 n kc x) := by
  have hc : ((look x.key kc).getD Chn.empty).l.length ≤ m ∧ ∀ v ∈ ((look x.key kc).getD Chn.empty).l, v.row.length ≤ 4000 := by
    cases hl : look x.key kc with
    | none => exact ⟨Nat.zero_le _, fun v hv => by cases hv⟩
    | some c => have := h.chains _ (look_mem hl); exact ⟨this.1, this.2.2⟩
  refine ⟨slay_rising h.rising, Nat.le_trans slay_length (by have := h.keys; omega), fun p hp => ?_, fun p hp => ?_⟩
  · rcases mem_slay h.rising p hp with rfl | hp
    · exact h1
    · exact h.ksz p hp
  · rcases mem_slay h.rising p hp with rfl | hp
    · refine ⟨?_, Int.le_refl _, fun v hv => ?_⟩
      · show (_ ++ [_]).length ≤ _; rw [List.length_append]; have := hc.1; simp; omega
      · rcases List.mem_append.1 hv with hv | hv
        · exact hc.2 v hv
        · obtain rfl : v = _ := by simpa using hv
          exact h2
    · have := h.chains p hp; exact ⟨by omega, this.2⟩
theorem fold_ok {n : Int} {m : Nat} {kc : List (ByteArray × Chn)} (h : KcOk n m kc) (h0 : 0 ≤ n) {l : List Wr} (hl : ∀ x ∈ l, x.key.size ≤ 4000 ∧ x.row.length ≤ 4000) : KcOk n (m + l.length) (l.foldl (Sto.put1 n) kc) := by
  induction l generalizing kc m with
  | nil => exact h
  | cons x l ih =>
    have hx := hl x (List.mem_cons_self ..)
    have := ih (put1_ok h h0 hx.1 hx.2) fun y hy => hl y (List.mem_cons_of_mem _ hy)
    rw [List.length_cons, show m + (l.length + 1) = m + 1 + l.length by omega]
    exact this
theorem fold_look {n : Int} {kc : List (ByteArray × Chn)} (h : Rising (kc.map Prod.fst)) {l : List Wr} {k : ByteArray} (hk : k ∉ l.map Wr.key) : look k (l.foldl (Sto.put1 n) kc) = look k kc := by
  induction l generalizing kc with
  | nil => rfl
  | cons x l ih =>
    simp only [List.map_cons, List.mem_cons, not_or] at hk
    have h1 := ih (kc := Sto.put1 n kc x) (slay_rising h) hk.2
    rw [List.foldl_cons, h1]
    unfold Sto.put1
    rw [look_slay h, if_neg (fun e => hk.1 e.symm)]
theorem Sto.Small.kcOk {s : Sto} {m : Nat} (h : s.Small m) (hr : Rising (s.kc.map Prod.fst)) : KcOk (s.now + 1) m s.kc :=
  ⟨hr, h.keys, h.ksz, fun p hp => by have := h.chains p hp; exact ⟨this.1, by omega, this.2.2⟩⟩
theorem Sto.Small.applied {s : Sto} {m : Nat} (h : s.Small m) (hr : Rising (s.kc.map Prod.fst)) {l : List Wr} (hok : right (s.now + 1) l = true) : Sto.Small ⟨l.foldl (Sto.put1 (s.now + 1)) s.kc, s.now + 1⟩ (m + 64) := by
  unfold right at hok
  simp only [Bool.and_eq_true, decide_eq_true_eq] at hok
  have h1 := fold_ok (h.kcOk hr) (by have := h.now0; omega) fun x hx => by have := allFit_mem hok.1 x hx; exact ⟨this.2.1, this.2.2.1⟩
  have hl := hok.2.2
  exact ⟨by have := h.now0; show 0 ≤ s.now + 1; omega, by have := h.now1; show s.now + 1 ≤ _; omega, by have := h1.keys; show (l.foldl (Sto.put1 (s.now + 1)) s.kc).length ≤ _; omega, h1.ksz, fun p hp => by have := h1.chains p hp; exact ⟨by omega, this.2⟩⟩

/-- What the loop holds at a round's head. -/
structure ApInv (w w1 : World) (F : Nat → Prop) (sb mb : Nat) (s : Sto) (n : Int) (ws : List Wr) (k : Nat) (wr : World) : Prop where
  le : k ≤ ws.length
  blk : wr.heap[sb]? = some (.cells #[.map (some mb), .int .i64 n] 159 (0, 0))
  held : ∃ l G, MapIs wr mb l ∧ Held wr l ((ws.take k).foldl (Sto.put1 n) s.kc) G ∧ ∀ k i, G k i → ((F i ∧ i < w.heap.size) ∨ w1.heap.size ≤ i) ∧ i ≠ sb ∧ i ≠ mb
  fr : Fr (fun i => F i ∧ i < w.heap.size) w1 wr

theorem ap_next {w wl W w5 : World} {F : Nat → Prop} {sb mb : Nat} {s : Sto} {n : Int} {ws : List Wr} {k b : Nat} {l2 : List (ByteArray × Value)} {kc2 : List (ByteArray × Chn)} {G2 : ByteArray → Nat → Prop} {key : ByteArray} {c' : Chn} (hlt : k < ws.length)
    (hsz : sb < wl.heap.size ∧ mb < wl.heap.size) (hfr : Fr (fun i => F i ∧ i < w.heap.size) wl W) (hblk : W.heap[sb]? = some (.cells #[.map (some mb), .int .i64 n] 159 (0, 0))) (h5 : MapIs W mb l2) (hG : Held W l2 kc2 G2)
    (hGF : ∀ k i, G2 k i → ((F i ∧ i < w.heap.size) ∨ wl.heap.size ≤ i) ∧ i ≠ sb ∧ i ≠ mb) (hv : look key l2 = some (.pointer (some ⟨b, 0, none⟩))) (hc5 : ChainAt w5 (fun i => G2 key i ∨ W.heap.size ≤ i) b c') (hf5 : Fr (G2 key) W w5)
    (heq : slay key c' kc2 = (ws.take (k + 1)).foldl (Sto.put1 n) s.kc) : ApInv w wl F sb mb s n ws (k + 1) w5 := by
  obtain ⟨G3, hG3, hsub⟩ := hG.turn hv hf5 hc5
  rw [heq] at hG3
  have hs := hfr.size
  refine ⟨by omega, hf5.blk hblk (fun h => (hGF _ _ h).2.1 rfl), ⟨l2, G3, h5.stab (hf5.block _ h5.lt (fun h => (hGF _ _ h).2.2 rfl)), hG3, fun k' i hi => ?_⟩, hfr.trans (hf5.mono fun i _ hi => (hGF _ _ hi).1)⟩
  rcases hsub k' i hi with ⟨k'', h⟩ | h
  · exact hGF k'' i h
  · exact ⟨.inr (by omega), by omega, by omega⟩

set_option maxHeartbeats 2000000 in
set_option maxRecDepth 100000 in
theorem store_apply_ok {w : World} {F R : Nat → Prop} {sb : Nat} {s : Sto} {m : Nat} {A : Option Addr} {c : Nat} {ws : List Wr} (h : StoreAt w F sb s) (hs : s.Small m) (hm : m ≤ 100000000) (hR : Rd tWr w R A ws) (hd : ∀ i, R i → ¬ F i)
    (hok : right (s.now + 1) ws = true) :
    Calls Tryz.prog 78 #[.pointer (some ⟨sb, 0, none⟩), .agg #[.int .i64 (s.now + 1), .slice A ws.length c]] w fun e w' =>
      e = .returned (.int .i64 0) ∧ StoreAt w' (fun i => F i ∨ w.heap.size ≤ i) sb ⟨ws.foldl (Sto.put1 (s.now + 1)) s.kc, s.now + 1⟩ ∧ Fr F w w' := by
  have hlen : ws.length ≤ 64 := by
    unfold right at hok
    simp only [Bool.and_eq_true, decide_eq_true_eq] at hok
    exact hok.2.2
  have hfit : allFit ⟨#[]⟩ ws = true := by
    unfold right at hok
    simp only [Bool.and_eq_true] at hok
    exact hok.1
  have hright := fun w' (f : Fr No w w') => right_ok (w := w') (s.now + 1) A c ws (hR.fr0 f) (by omega) (fun x hx => by have := allFit_mem hfit x hx; omega)
  rw [hok] at hright
  obtain ⟨h1, mb, l, G, h2, h3, h4, h5, h6, h7⟩ := h
  have c0 := blk_cell h4 0
  have c1 := blk_cell h4 1
  have z1 := blk_frozen h4 1
  simp at c0 c1
  have hn0 := hs.now0
  have hn1 : s.now ≤ 100000000 := by have := hs.now1; omega
  have lsb := blk_lt h4
  have cc : ∀ w', Fr No w w' → w'.heap[sb]? = some (.cells #[.map (some mb), .int .i64 s.now] 159 (0, 0)) := fun w' f => f.blk h4 (fun f => f)
  have CC := Lib.hid cc
  have HRt := Lib.hid hright
  clear cc hright
  have HH := Lib.hid (And.intro h1 (And.intro h2 (And.intro h3 (And.intro h4 (And.intro h5 (And.intro h6 (And.intro h7 (And.intro hs (And.intro hm (And.intro hR (And.intro hd (And.intro hfit hlen))))))))))))
  clear h1 h2 h4 h5 h6 h7 hs hR hd hfit hok
  go_enter Tryz.func78, Tryz.ntmps78
  go_wp2_with (go_at_call 143; refine (HRt.out _ ((Fr.refl No w).alloc _)).mono ?_; rintro e w1 ⟨rfl, hf1⟩
               have b0 := blk_cell (CC.out w1 (((Fr.refl No w).alloc _).trans (hf1.mono fun _ _ f => f.elim))) 0
               have b1 := blk_cell (CC.out w1 (((Fr.refl No w).alloc _).trans (hf1.mono fun _ _ f => f.elim))) 1
               have y1 := blk_frozen (CC.out w1 (((Fr.refl No w).alloc _).trans (hf1.mono fun _ _ f => f.elim))) 1
               have e0 : w1.cell? ⟨w.heap.size, 0, none⟩ = some (.int .i64 (s.now + 1)) := hf1.cell (by simp) (fun f => f)
               have e1 : w1.cell? ⟨w.heap.size, 1, none⟩ = some (.slice A ws.length c) := hf1.cell (by simp) (fun f => f)
               simp at b0 b1
               have HF1 := Lib.hid hf1; clear hf1)
  go_quiet (fail)
  go_wp2
  have hfw : Fr No w w1 := ((Fr.refl No w).alloc _).trans (HF1.out.mono fun _ _ f => f.elim)
  have hwsz : w.heap.size < w1.heap.size := by have := HF1.out.size; simp at this; omega
  obtain ⟨wl, hwl⟩ : ∃ x, x = (w1.drewN nq).setCell ⟨sb, 1, none⟩ (.int .i64 (s.now + 1)) := ⟨_, rfl⟩
  rw [← hwl]
  have hsl : wl.heap.size = w1.heap.size := by rw [hwl]; simp
  have hbl : wl.heap[sb]? = some (.cells #[.map (some mb), .int .i64 (s.now + 1)] 159 (0, 0)) := by
    rw [hwl]
    have := blk_set (w := w1.drewN nq) (CC.out w1 hfw) 1 (.int .i64 (s.now + 1))
    simpa using this
  have hother : ∀ k, k ≠ sb → wl.heap[k]? = w1.heap[k]? := fun k hk => by rw [hwl]; exact Below.heap_setCell (w1.drewN nq) ⟨sb, 1, none⟩ _ k hk
  have hfl : Fr (fun i => F i ∧ i < w.heap.size) w wl := by
    rw [hwl]
    exact ((hfw.drewN nq).mono fun _ _ f => f.elim).set _ (.inl ⟨HH.out.1, lsb⟩) _
  have f0 : wl.cell? ⟨w.heap.size, 0, none⟩ = some (.int .i64 (s.now + 1)) := (World.cell?_of_block (a := ⟨w.heap.size, 0, none⟩) (hother w.heap.size (by omega))).trans e0
  have f1 : wl.cell? ⟨w.heap.size, 1, none⟩ = some (.slice A ws.length c) := (World.cell?_of_block (a := ⟨w.heap.size, 1, none⟩) (hother w.heap.size (by omega))).trans e1
  have hst : ApInv w wl F sb mb s (s.now + 1) ws 0 wl := by
    obtain ⟨h1, h2, h3, h4, h5, h6, h7, _⟩ := HH.out
    refine ⟨Nat.zero_le _, hbl, ⟨l, G, h5.stab ((hother _ h3).trans (hfw.block _ h5.lt (fun f => f))), h6.stab (by have := hfw.size; omega) (fun k i hi => (hother _ (h7 k i hi).2.1).trans (hfw.block _ (h6.lt k i hi) (fun f => f))), fun k i hi => ⟨.inl ⟨(h7 k i hi).1, h6.lt k i hi⟩, (h7 k i hi).2⟩⟩, Fr.refl _ _⟩
  have HL := Lib.hid (And.intro hst (And.intro hfl (And.intro f0 (And.intro f1 (And.intro hsl hwsz)))))
  clear hst hfl f0 f1 hother hbl hsl hwsz hfw e0 e1 b0 b1 y1 HF1 hwl
  go_loopw [31] (fun i wr => ∃ k : Nat, i = .int .i64 k ∧ Hid (ApInv w wl F sb mb s (s.now + 1) ws k wr)) (fun i _ => ws.length - (intOf i).toNat)
  case atStart => exact ⟨0, rfl, HL.out.1⟩
  case round =>
    obtain ⟨k, rfl, I⟩ := hrel
    by_cases hlt : k < ws.length
    · obtain ⟨hst, hfl, f0, f1, hsl, hwsz⟩ := HL.out
      have hRl := (HH.out.2.2.2.2.2.2.2.2.2.1.fr hfl fun i hi hf => HH.out.2.2.2.2.2.2.2.2.2.2.1 i hi hf.1).fr I.out.fr fun i hi hf => HH.out.2.2.2.2.2.2.2.2.2.2.1 i hi hf.1
      obtain ⟨ad, A', c', rfl, x0, x1, x2, hc', hrd⟩ := wr_at hRl hlt
      have g0 : wr.cell? ⟨w.heap.size, 0, none⟩ = some (.int .i64 (s.now + 1)) := I.out.fr.cell f0 (fun h => Nat.lt_irrefl _ h.2)
      have c0' := blk_cell I.out.blk 0
      have hfx := allFit_mem HH.out.2.2.2.2.2.2.2.2.2.2.2.1 _ (List.getElem_mem hlt)
      obtain ⟨l', G', h5, hG, hGF⟩ := I.out.held
      have hzs : ∀ d, (zeroValue 224).run Tryz.prog ((wr.alloc (.cells #[.string ws[k].key, .slice A' ws[k].row.length c', .bool ws[k].gone] 117)).drewN d) = .ok (.pointer none) ((wr.alloc (.cells #[.string ws[k].key, .slice A' ws[k].row.length c', .bool ws[k].gone] 117)).drewN d) := fun d => zero_chain _
      have hrun := fun d => (run_map_look (P := Tryz.prog) (w := (wr.alloc (.cells #[.string ws[k].key, .slice A' ws[k].row.length c', .bool ws[k].gone] 117)).drewN d) (h5.stab (Below.heap_alloc _ _ _ h5.lt)) 157 _ _ Tryz.underlying157 Tryz.underlying9 _ (hzs d) ws[k].key).1
      clear hzs hst hfl f0 f1 hRl
      have hfold : (ws.take (k + 1)).foldl (Sto.put1 (s.now + 1)) s.kc = Sto.put1 (s.now + 1) ((ws.take k).foldl (Sto.put1 (s.now + 1)) s.kc) ws[k] := by
        rw [List.take_succ_eq_append_getElem hlt, List.foldl_append]; rfl
      obtain ⟨x, hx⟩ : ∃ x, ws[k] = x := ⟨_, rfl⟩
      rw [hx] at x0 x1 x2 hrd hfx hfold hc'
      simp only [hx] at hrun
      obtain ⟨kc, hkc⟩ : ∃ kc, (ws.take k).foldl (Sto.put1 (s.now + 1)) s.kc = kc := ⟨_, rfl⟩
      rw [hkc] at hG hfold
      have hk0 : (0 : Int) ≤ (k : Int) := Int.natCast_nonneg _
      have hk1 : (k : Int) < (ws.length : Int) := by omega
      have hl64 : (ws.length : Int) ≤ 64 := by have := HH.out.2.2.2.2.2.2.2.2.2.2.2.2; omega
      have hrow : x.row.length ≤ 4000 := hfx.2.2.1
      simp at c0'
      have c0a := fun o => cell_alloc c0' o
      have g0a := fun o => cell_alloc g0 o
      have hko : kc.length ≤ 1000000000 ∧ ∀ ch, look x.key kc = some ch → ch.l.length ≤ 1000000000 ∧ ch.last < s.now + 1 := by
        obtain ⟨h1, h2, h3, h4, h5', h6, h7, hs, hm, hR, hd, hfit, hlen⟩ := HH.out
        have hr0 : Rising (s.kc.map Prod.fst) := h6.rising
        have hk1 := fold_ok (hs.kcOk hr0) (by omega) (l := ws.take k) fun y hy => by have := allFit_mem hfit y (List.mem_of_mem_take hy); exact ⟨this.2.1, this.2.2.1⟩
        rw [hkc] at hk1
        have hll : (ws.take k).length ≤ 64 := by have := List.length_take_le k ws; omega
        have hnk : x.key ∉ (ws.take k).map Wr.key := by
          intro hm'
          have hnd := (allFit_rising hfit).1
          obtain ⟨y, hy, e⟩ := List.mem_map.1 hm'
          obtain ⟨j, hj, rfl⟩ := List.getElem_of_mem hy
          have hj' : j < k := by simp at hj; omega
          rw [List.getElem_take] at e
          have h9 := List.pairwise_iff_getElem.1 (List.pairwise_map.1 hnd) j k (by omega) hlt hj'
          rw [hx, e, kl_irrefl] at h9
          cases h9
        refine ⟨by have := hk1.keys; omega, fun ch hch => ?_⟩
        have h8 : ch.l.length ≤ m + (ws.take k).length := (hk1.chains _ (look_mem hch)).1
        refine ⟨by omega, ?_⟩
        rw [← hkc, fold_look hr0 hnk] at hch
        have : ch.last ≤ s.now := (hs.chains _ (look_mem hch)).2.1
        omega
      have KO := Lib.hid hko
      clear hko
      have HX := Lib.hid (And.intro hfold (And.intro h5 (And.intro hG (And.intro hGF (And.intro hrd hfx)))))
      clear hx hkc hfold hrd hfx
      cases hlk : look x.key kc with
      | some ch =>
        obtain ⟨v, hv⟩ : ∃ v, look x.key l' = some v := by
          cases hl : look x.key l' with
          | none => rw [(hG.keys _).1 hl] at hlk; cases hlk
          | some v => exact ⟨v, rfl⟩
        obtain ⟨b, rfl, hb⟩ := hG.at_ _ _ _ hv hlk
        simp only [hv, Option.getD_some] at hrun
        clear hG hGF h5
        have hrun0 := hrun 0
        rw [World.drewN_zero] at hrun0
        go_wp2_with fail
        go_quiet (fail)
        go_wp2_with fail
        obtain ⟨W, hW⟩ : ∃ W, W = (wr.alloc (.cells #[.string x.key, .slice A' x.row.length c', .bool x.gone] 117)).drewN nq := ⟨_, rfl⟩
        rw [← hW]
        have hfW : Fr No wr W := by rw [hW]; exact ((Fr.refl No wr).alloc _).drewN nq
        have w0 : W.cell? ⟨sb, 0, none⟩ = some (.map (some mb)) := by rw [hW]; exact c0a _
        have w1' : W.cell? ⟨w.heap.size, 0, none⟩ = some (.int .i64 (s.now + 1)) := by rw [hW]; exact g0a _
        have w2 : W.cell? ⟨wr.heap.size, 0, none⟩ = some (.string x.key) := by rw [hW]; simp
        have w3 : W.cell? ⟨wr.heap.size, 1, none⟩ = some (.slice A' x.row.length c') := by rw [hW]; simp
        have w4 : W.cell? ⟨wr.heap.size, 2, none⟩ = some (.bool x.gone) := by rw [hW]; simp
        have hrW : Sem.run Tryz.prog (Instr.lookup 157 (.map (some mb)) (.string x.key) false) W.drew = .ok (.pointer (some ⟨b, 0, none⟩)) W.drew := by rw [hW]; exact hrun (nq + 1)
        clear hrun hrun0 hW
        refine still_tail 13 (by kernel_rfl) (by kernel_rfl) ?_
        simp only [List.take_succ_cons, List.take_zero, List.drop_succ_cons, List.drop_zero]
        repeat still_step
        try refine wpStill_nil ?_
        have hbW : ChainAt W.drew (G' x.key) b ch := hb.fr0 (hfW.drew)
        have hRW : Rd Ty.u8 W.drew R A' x.row := HX.out.2.2.2.2.1.fr0 (hfW.drew)
        have HB := Lib.hid (And.intro hbW (And.intro hRW (And.intro hlk hv)))
        clear hbW hRW hb hlk hv
        have hlast : ch.last < s.now + 1 := (KO.out.2 ch HB.out.2.2.1).2
        have hchl : ch.l.length ≤ 1000000000 := (KO.out.2 ch HB.out.2.2.1).1
        go_wp2_with (go_at_call 145; refine (chain_put HB.out.1 hchl (by omega) HB.out.2.1 hlast).mono ?_; rintro e w5 ⟨rfl, hc5, hf5⟩; have H5 := Lib.hid (And.intro hc5 hf5); clear hc5 hf5)
        go_roundw
        case rel =>
          obtain ⟨hfold, h5, hG, hGF, _, _⟩ := HX.out
          obtain ⟨hst, hfl, f0, f1, hsl, hwsz⟩ := HL.out
          have hf6 : Fr No wr W.drew := hfW.drew
          exact ⟨k + 1, by go_num, ap_next hlt ⟨by rw [hsl]; omega, by have := HH.out.2.2.2.2.1.lt; rw [hsl]; omega⟩ (I.out.fr.trans (hf6.mono fun _ _ f => f.elim)) (hf6.blk I.out.blk (fun f => f)) (h5.stab (hf6.block _ h5.lt (fun f => f))) (hG.fr0 hf6) hGF HB.out.2.2.2 H5.out.1 H5.out.2 (by rw [hfold]; exact put1_some HB.out.2.2.1)⟩
        case measure => simp [intOf]; omega
      | none =>
        have hv : look x.key l' = none := (hG.keys _).2 hlk
        simp only [hv, Option.getD_none] at hrun
        have h5' := Lib.hid h5
        clear hG hGF h5
        have hrun0 := hrun 0
        rw [World.drewN_zero] at hrun0
        go_wp2_with fail
        go_quiet (fail)
        go_wp2_with fail
        obtain ⟨W, hW⟩ : ∃ W, W = (wr.alloc (.cells #[.string x.key, .slice A' x.row.length c', .bool x.gone] 117)).drewN nq := ⟨_, rfl⟩
        rw [← hW]
        have hfW : Fr No wr W := by rw [hW]; exact ((Fr.refl No wr).alloc _).drewN nq
        have w0 : W.cell? ⟨sb, 0, none⟩ = some (.map (some mb)) := by rw [hW]; exact c0a _
        have w1' : W.cell? ⟨w.heap.size, 0, none⟩ = some (.int .i64 (s.now + 1)) := by rw [hW]; exact g0a _
        have w2 : W.cell? ⟨wr.heap.size, 0, none⟩ = some (.string x.key) := by rw [hW]; simp
        have w3 : W.cell? ⟨wr.heap.size, 1, none⟩ = some (.slice A' x.row.length c') := by rw [hW]; simp
        have w4 : W.cell? ⟨wr.heap.size, 2, none⟩ = some (.bool x.gone) := by rw [hW]; simp
        have hszW : W.heap.size = wr.heap.size + 1 := by rw [hW]; simp
        clear hrun hrun0 hW
        have hlw : wr.heap.size < W.heap.size := by omega
        go_region_held3 (fun w' => w'.cell? ⟨sb, 0, none⟩ = some (.map (some mb)) ∧ w'.cell? ⟨wr.heap.size, 0, none⟩ = some (.string x.key)) (first | go_keep | exact ⟨k0, k1⟩ | exact ⟨j0, j1⟩)
          (first
            | (go_at_call 144; refine (chain_new _).mono ?_; rintro e w6 ⟨nb, rfl, hc6, hf6⟩
               have k0 : w6.cell? ⟨sb, 0, none⟩ = some (.map (some mb)) := hf6.cell w0 (fun f => f)
               have k1 : w6.cell? ⟨wr.heap.size, 0, none⟩ = some (.string x.key) := hf6.cell w2 (fun f => f)
               have hf6' : Fr No wr w6 := (hfW.drew).trans (hf6.mono fun _ _ f => f.elim)
               obtain ⟨w7, hU, hM, hF7⟩ := run_map_lay (P := Tryz.prog) (w := w6) (h5'.out.stab (hf6'.block _ h5'.out.lt (fun f => f))) 157 _ _ Tryz.underlying157 Tryz.underlying9 x.key (.pointer (some ⟨nb, 0, none⟩))
               have j0 : w7.cell? ⟨sb, 0, none⟩ = some (.map (some mb)) := hF7.cell k0 (fun e => h3 e.symm)
               have j1 : w7.cell? ⟨wr.heap.size, 0, none⟩ = some (.string x.key) := hF7.cell k1 (fun e => by have := h5'.out.lt; simp at e; omega)
               have HM := Lib.hid (And.intro hc6 (And.intro hf6 (And.intro hM hF7)))
               clear hc6 hf6 hM hF7))
        have hn0w : W.heap.size ≤ w6.heap.size := HM.out.2.1.size
        have hbx : ∀ a v, a.block ≠ mb → W.cell? a = some v → w7.cell? a = some v := fun a v ha h => HM.out.2.2.2.cell (HM.out.2.1.cell h (fun f => f)) ha
        have hmlt : mb < wr.heap.size := h5'.out.lt
        have hmlw : mb < w.heap.size := HH.out.2.2.2.2.1.lt
        have hmw : mb ≠ w.heap.size := by omega
        have v0 : w7.cell? ⟨w.heap.size, 0, none⟩ = some (.int .i64 (s.now + 1)) := hbx _ _ hmw.symm w1'
        have v1 : w7.cell? ⟨wr.heap.size, 1, none⟩ = some (.slice A' x.row.length c') := hbx _ _ (by simp; omega) w3
        have v2 : w7.cell? ⟨wr.heap.size, 2, none⟩ = some (.bool x.gone) := hbx _ _ (by simp; omega) w4
        have hrW : Sem.run Tryz.prog (Instr.lookup 157 (.map (some mb)) (.string x.key) false) w7.drew = .ok (.pointer (some ⟨nb, 0, none⟩)) w7.drew := by
          have := (run_map_look (P := Tryz.prog) (w := w7.drew) (HM.out.2.2.1.stab rfl) 157 _ _ Tryz.underlying157 Tryz.underlying9 _ (zero_chain _) x.key).1
          rw [look_lay, if_pos rfl] at this
          exact this
        clear hbx hmlw
        go_wp2_with fail
        refine still_tail 13 (by kernel_rfl) (by kernel_rfl) ?_
        simp only [List.take_succ_cons, List.take_zero, List.drop_succ_cons, List.drop_zero]
        repeat still_step
        try refine wpStill_nil ?_
        obtain ⟨G7, hG7, hsub, hb7⟩ : ∃ G7, Held w7.drew (lay x.key (.pointer (some ⟨nb, 0, none⟩)) l') (slay x.key Chn.empty kc) G7 ∧ (∀ k i, G7 k i → (∃ k', G' k' i) ∨ W.drew.heap.size ≤ i) ∧ ChainAt w7.drew (G7 x.key) nb Chn.empty := by
          obtain ⟨hfold, h5, hG, hGF, _, _⟩ := HX.out
          obtain ⟨G7, hG6, hsub⟩ := (hG.fr0 hfW.drew).more hlk HM.out.2.1 HM.out.1
          have hG7 : Held w7.drew _ _ G7 := (hG6.fr HM.out.2.2.2 fun k i hi e => by
            subst e
            rcases hsub k i hi with ⟨k', h⟩ | h
            · exact (hGF k' i h).2.2 rfl
            · simp at h; omega).fr0 ((Fr.refl No _).drew)
          refine ⟨G7, hG7, hsub, ?_⟩
          obtain ⟨b, e, hc⟩ := hG7.at_ x.key _ Chn.empty (by rw [look_lay, if_pos rfl]) (by rw [look_slay hG.rising, if_pos rfl])
          injection e with e; injection e with e; injection e with e
          subst e
          exact hc
        have hR7 : Rd Ty.u8 w7.drew R A' x.row := ((HX.out.2.2.2.2.1.fr0 hf6').fr HM.out.2.2.2 fun i hi e => by subst e; exact HH.out.2.2.2.2.2.2.2.2.2.2.1 i hi HH.out.2.1).fr0 ((Fr.refl No _).drew)
        have HB := Lib.hid (And.intro hb7 (And.intro hR7 (And.intro hG7 hsub)))
        clear hb7 hR7 hG7 hsub
        have hlast : Chn.empty.last < s.now + 1 := by show (0 : Int) < _; omega
        go_wp2_with (go_at_call 145; refine (chain_put HB.out.1 (by show 0 ≤ _; omega) (by omega) HB.out.2.1 hlast).mono ?_; rintro e w5 ⟨rfl, hc5, hf5⟩; have H5 := Lib.hid (And.intro hc5 hf5); clear hc5 hf5)
        go_roundw
        case rel =>
          obtain ⟨hfold, h5, hG, hGF, _, _⟩ := HX.out
          obtain ⟨hst, hfl, f0, f1, hsl, hwsz⟩ := HL.out
          have hFl7 : Fr (fun i => F i ∧ i < w.heap.size) wl w7.drew := (I.out.fr.trans ((hf6'.mono fun _ _ f => f.elim).trans (HM.out.2.2.2.mono fun i _ e => by subst e; exact .inl (.inl ⟨HH.out.2.1, HH.out.2.2.2.2.1.lt⟩)))).drew
          have hWs : wr.heap.size + 1 = W.drew.heap.size := by simp; omega
          have hwls : wl.heap.size ≤ wr.heap.size := I.out.fr.size
          exact ⟨k + 1, by go_num, ap_next hlt ⟨by rw [hsl]; omega, by have := HH.out.2.2.2.2.1.lt; rw [hsl]; omega⟩ hFl7 (HM.out.2.2.2.blk (hf6'.blk I.out.blk (fun f => f)) (fun e => h3 e.symm)) (HM.out.2.2.1.stab rfl) HB.out.2.2.1 (fun k i hi => by
            rcases HB.out.2.2.2 k i hi with ⟨k', h⟩ | h
            · exact hGF k' i h
            · exact ⟨.inr (by omega), by omega, by omega⟩) (by rw [look_lay, if_pos rfl]) H5.out.1 H5.out.2 (by rw [hfold]; exact put1_put hlk)⟩
        case measure => simp [intOf]; omega
    · obtain rfl : k = ws.length := by have := I.out.le; omega
      go_wp2
      go_ret
      obtain ⟨l', G', h5, hG, hGF⟩ := I.out.held
      rw [List.take_length] at hG
      refine ⟨rfl, ⟨.inl HH.out.1, mb, l', G', .inl HH.out.2.1, HH.out.2.2.1, I.out.blk, h5, hG, fun k i hi => ⟨?_, (hGF k i hi).2⟩⟩, (HL.out.2.1.mono fun _ _ h => h.1).trans (I.out.fr.mono fun i _ h => .inl h.1)⟩
      rcases (hGF k i hi).1 with h | h
      · exact .inl h.1
      · exact .inr (by have := HL.out.2.1.size; omega)
end Go.Proofs.YtlmhphejgahfbaaGreatDoor
/- Layer 15 (ledger): what Publish keeps: plain facts, and a ledger's parts behind a turn of one of them. -/
set_option linter.unusedVariables false
set_option linter.unusedSimpArgs false
namespace Go.Proofs.YtlmhphejgahfbaaGreatDoor
open Go.RowKit

theorem find_nodup {L : Led} (h : (L.txs.map LTx.id).Nodup) : ∀ x ∈ L.txs, L.find x.id = some x := by
  unfold Led.find
  revert h
  generalize L.txs = l
  intro h
  induction l with
  | nil => intro x hx; cases hx
  | cons y l ih =>
    intro x hx
    rw [List.map_cons, List.nodup_cons] at h
    rcases List.mem_cons.1 hx with rfl | hx
    · simp
    · have hne : ¬ y.id = x.id := fun e => h.1 (List.mem_map.2 ⟨x, hx, e.symm⟩)
      rw [List.find?_cons]
      simp only [hne, decide_false]
      exact ih h.2 x hx
theorem dropped_snoc (L : Led) (ids : List Int) (id : Int) : L.dropped (ids ++ [id]) = (L.dropped ids).without id := by unfold Led.dropped; rw [List.foldl_append]; rfl
theorem dropped_parts (L : Led) (ids : List Int) : (L.dropped ids).tabs = L.tabs ∧ (L.dropped ids).s = L.s ∧ (L.dropped ids).next = L.next ∧ (L.dropped ids).sts = L.sts ∧ (L.dropped ids).txs.Sublist L.txs := by
  unfold Led.dropped
  induction ids generalizing L with
  | nil => exact ⟨rfl, rfl, rfl, rfl, List.Sublist.refl _⟩
  | cons id ids ih =>
    obtain ⟨a, b, c, d, e⟩ := ih (L.without id)
    exact ⟨a, b, c, d, e.trans (List.filter_sublist)⟩
section
variable {w w' : World} {col : Nat → Nat} {lb : Nat} {L : Led} {A : Option Addr} {c sb mb : Nat} {vst : Value} {l : List (Int × Value)}
theorem LedP.without (h : LedP w col lb L A c sb mb vst l) (id : Int) (hm : MapII w' mb (wipeI id l)) (f : Fr (fun i => i = mb) w w') : LedP w' col lb (L.without id) A c sb mb vst (wipeI id l) := by
  have hc2 := h.c2
  have hne : ∀ i, col i ≠ 2 → ¬ i = mb := fun i hi e => hi (by rw [e]; exact hc2)
  refine ⟨f.blk h.blk (hne _ (by rw [h.c1]; decide)), h.c1, h.c2, h.cap, h.tabs.fr f fun i hi => hne _ (by rw [hi]; decide), h.sto.fr f fun i hi => hne _ (by rw [hi]; decide), hm, ⟨fun id' h' => ?_, fun id' y hy => ?_⟩, h.sts.fr f fun i hi => hne _ (by rcases hi with hi | hi <;> rw [hi] <;> decide), h.own, h.kat.fr f (hne _ (by rw [h.kc]; decide)), h.kc⟩
  · rw [find_without] at h'
    rw [look_wipeI h.map.nodup]
    split at h'
    · rename_i e; rw [if_pos e.symm]
    · rename_i e; rw [if_neg (fun q => e q.symm)]; exact h.txs.none_ _ h'
  · rw [find_without] at hy
    split at hy
    · cases hy
    · rename_i e
      obtain ⟨xb, h1, h2⟩ := h.txs.some_ _ y hy
      refine ⟨xb, ?_, h2.fr f fun i hi => hne _ (by have := txCol_ge id'; omega)⟩
      rw [look_wipeI h.map.nodup, if_neg (fun q => e q.symm)]; exact h1
theorem LedP.withSto {s' : Sto} (h : LedP w col lb L A c sb mb vst l) (hs : StoreAt w' (fun i => col i = 3 ∨ w.heap.size ≤ i) sb s') (f : Fr (fun i => col i = 3) w w') : LedP w' (ext col w.heap.size 3) lb { L with s := s' } A c sb mb vst l := by
  have hlt : ∀ i, i < w.heap.size → ext col w.heap.size 3 i = col i := fun i hi => ext_old col hi
  have hr := h.recol (col' := ext col w.heap.size 3) hlt
  have hne : ∀ i, i < w.heap.size → ext col w.heap.size 3 i ≠ 3 → ¬ col i = 3 := fun i hi h1 h2 => h1 (by rw [hlt i hi]; exact h2)
  refine ⟨f.blk hr.blk (hne _ (blk_lt h.blk) (by rw [hr.c1]; decide)), hr.c1, hr.c2, hr.cap, hr.tabs.stab fun i hi hl => f.block i hl (hne i hl (by rw [hi]; decide)), hs.mono fun i hi hl => ?_, h.map.stab (f.block _ h.map.lt (hne _ h.map.lt (by rw [hr.c2]; decide))), ⟨h.txs.none_, fun id x hx => ?_⟩, hr.sts.stab fun i hi hl => f.block i hl (hne i hl (by rcases hi with hi | hi <;> rw [hi] <;> decide)), hr.own, h.kat.fr f (hne _ (kat_lt h.kat) (by rw [hr.kc]; decide)), hr.kc⟩
  · show ext _ _ _ i = 3
    rcases Nat.lt_or_ge i w.heap.size with h1 | h1
    · rw [hlt i h1]; rcases hi with hi | hi; exact hi; omega
    · exact ext_new col h1
  · obtain ⟨xb, h1, h2⟩ := hr.txs.some_ id x hx
    exact ⟨xb, h1, h2.stab fun i hi hl => f.block i hl (hne i hl (by have := txCol_ge id; omega))⟩
end
end Go.Proofs.YtlmhphejgahfbaaGreatDoor
