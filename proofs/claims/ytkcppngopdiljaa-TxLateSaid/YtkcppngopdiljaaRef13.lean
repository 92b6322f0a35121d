/- Reference 13 (store): of, Get, Last, Len. -/
import Derived.Test.YtkcppngopdiljaaRef12b
import Derived.Test.YtkcppngopdiljaaStore6
set_option linter.unusedVariables false
set_option linter.unusedSimpArgs false
namespace Go.Proofs.Ytkcppngopdiljaa
open Go.RowKit

/-- The document's store as a value. -/
def StoVal (w : World) (F : Nat → Prop) (v : Value) (s : Sto) : Prop :=
  ∃ A c B d, v = .agg #[.slice A s.kc.length c, .slice B s.kc.length d, .int .i64 s.now] ∧ s.kc.length ≤ c ∧ s.kc.length ≤ d ∧ Rd Ty.str w F A (s.kc.map Prod.fst) ∧ Rd tChn w F B (s.kc.map Prod.snd)
theorem StoVal.fr {S F : Nat → Prop} {w w' : World} {v : Value} {s : Sto} (h : StoVal w F v s) (f : Fr S w w') (hd : ∀ k, F k → ¬ S k) : StoVal w' F v s := by
  obtain ⟨A, c, B, d, e, h1, h2, h3, h4⟩ := h
  exact ⟨A, c, B, d, e, h1, h2, h3.fr f hd, h4.fr f hd⟩
theorem StoVal.fr0 {F : Nat → Prop} {w w' : World} {v : Value} {s : Sto} (h : StoVal w F v s) (f : Fr No w w') : StoVal w' F v s := h.fr f fun _ _ f => f
theorem StoVal.mono {F G : Nat → Prop} {w : World} {v : Value} {s : Sto} (h : StoVal w F v s) (k : ∀ k, F k → k < w.heap.size → G k) : StoVal w G v s := by
  obtain ⟨A, c, B, d, e, h1, h2, h3, h4⟩ := h
  exact ⟨A, c, B, d, e, h1, h2, h3.mono k, h4.mono k⟩
/-- What holds of each store of the document. -/
structure Sto.Fine (s : Sto) (m : Nat) : Prop where
  small : s.Small m
  rising : Rising (s.kc.map Prod.fst)
  oks : ∀ p ∈ s.kc, p.2.Ok
theorem Sto.Fine.ok {s : Sto} {m : Nat} (h : s.Fine m) (k : ByteArray) : (s.of k).Ok ∧ (s.of k).l.length ≤ m ∧ (∀ v ∈ (s.of k).l, v.row.length ≤ 4000) := by
  unfold Sto.of
  cases hl : look k s.kc with
  | none => exact ⟨⟨List.Pairwise.nil, fun v hv => by cases hv⟩, Nat.zero_le _, fun v hv => by cases hv⟩
  | some c => have := h.small.chains _ (look_mem hl); exact ⟨h.oks _ (look_mem hl), this.1, this.2.2⟩

theorem chn_at {w : World} {F : Nat → Prop} {A : Option Addr} {l : List Chn} (h : Rd tChn w F A l) {i : Nat} (hi : i < l.length) :
    ∃ ad A' c', A = some ad ∧ w.cell? (ad.add (i * 2)) = some (.slice A' l[i].l.length c') ∧ w.cell? ⟨(ad.add (i * 2)).block, (ad.add (i * 2)).off + 1, none⟩ = some (.int .i64 l[i].last) ∧
      l[i].l.length ≤ c' ∧ Rd tVer w F A' l[i].l := by
  obtain ⟨ad, cs, e, hk, e0, e1⟩ := h.get' hi (by decide)
  obtain ⟨A', c', rfl, h1, h2⟩ := tChn_open hk
  exact ⟨ad, A', c', e, e0 _ rfl, e1 1 _ (by decide) rfl, h1, h2⟩

theorem ref_of {w : World} {F : Nat → Prop} {v : Value} {s : Sto} (key : ByteArray) (h : StoVal w F v s) (hl : s.kc.length ≤ 1000000000) (hr : Rising (s.kc.map Prod.fst)) :
    Calls Try.prog 61 #[v, .string key] w fun e w' => ∃ u, e = .returned u ∧ ChnVal w' F u (s.of key) ∧ Fr No w w' := by
  obtain ⟨A, c, B, d, rfl, h1, h2, h3, h4⟩ := h
  obtain ⟨W, hW⟩ : ∃ W, W = (w.alloc (.cells #[.slice A s.kc.length c, .slice B s.kc.length d, .int .i64 s.now] 55)).alloc (.cells #[.slice none 0 0, .int .i64 0] 119) := ⟨_, rfl⟩
  have hb : W.heap[w.heap.size]? = some (.cells #[.slice A s.kc.length c, .slice B s.kc.length d, .int .i64 s.now] 55 (0, 0)) := by rw [hW]; exact blk_two1 ..
  have hk : W.heap[w.heap.size + 1]? = some (.cells #[.slice none 0 0, .int .i64 0] 119 (0, 0)) := by rw [hW]; exact blk_two2 ..
  have b0 := blk_cell hb 0
  have b1 := blk_cell hb 1
  have k0 := blk_cell hk 0
  have k1 := blk_cell hk 1
  have z0 := blk_frozen hk 0
  have z1 := blk_frozen hk 1
  simp at b0 b1 k0 k1
  have hf : Fr No w W := by rw [hW]; exact ((Fr.refl No w).alloc _).alloc _
  have H := Lib.hid (And.intro (h3.fr0 hf) (And.intro ((h4.mono fun i hi hl => (⟨hi, hl⟩ : F i ∧ i < w.heap.size)).fr0 hf) (And.intro hk (And.intro hf hr))))
  clear h1 h2 h3 h4 hb hk hf hr
  have hlI : (s.kc.length : Int) ≤ 1000000000 := by omega
  go_enter Try.func61, Try.ntmps61
  go_wp2
  rw [← hW]
  clear hW
  go_loopw [5] (fun i wr => ∃ k : Nat, k ≤ s.kc.length ∧ i = .int .i64 k ∧ Hid (∀ j (h : j < s.kc.length), j < k → s.kc[j].1 ≠ key) ∧ wr = W) (fun i _ => s.kc.length - (intOf i).toNat)
  case atStart => exact ⟨0, Nat.zero_le _, rfl, fun j _ h => by omega, rfl⟩
  case round =>
    obtain ⟨k, hk, rfl, hno, rfl⟩ := hrel
    by_cases hlt : k < s.kc.length
    · obtain ⟨ad, rfl, x0⟩ := str_at H.out.1 (i := k) (by simpa using hlt)
      obtain ⟨ad2, A', c', rfl, y0, y1, hc', hrd⟩ := chn_at H.out.2.1 (i := k) (by simpa using hlt)
      rw [List.getElem_map] at x0
      simp only [List.getElem_map] at y0 y1 hc' hrd
      have hq0 : (0 : Int) ≤ (k : Int) := Int.natCast_nonneg _
      have hq1 : (k : Int) < (s.kc.length : Int) := by omega
      have hmem : s.kc[k] ∈ s.kc := List.getElem_mem _
      have hlook := look_of_mem (k := s.kc[k].1) (v := s.kc[k].2) H.out.2.2.2.2.nodup hmem
      have hstep : s.kc[k].1 ≠ key → ∀ j (h : j < s.kc.length), j < k + 1 → s.kc[j].1 ≠ key := fun hne j h hj => by
        rcases Nat.lt_or_ge j k with h' | h'
        · exact hno.out j h h'
        · obtain rfl : j = k := by omega
          exact hne
      have HL := Lib.hid (And.intro hlook (And.intro hstep (And.intro hc' hrd)))
      clear hlook hstep hmem hc' hrd
      generalize s.kc[k].1 = ky at *
      generalize s.kc[k].2 = ch at *
      cases hb : (ky.toList == key.toList)
      · go_wp2
        go_roundw
        case rel => exact ⟨k + 1, by omega, by go_num, HL.out.2.1 (by rw [beq_toList] at hb; simpa using hb), by first | rfl | trivial⟩
        case measure => simp [intOf]; omega
      · obtain rfl : ky = key := by rw [beq_toList] at hb; simpa using hb
        go_wp2
        obtain ⟨hc', hrd⟩ := HL.out.2.2
        have hb4 := blk_set (blk_set H.out.2.2.1 0 (.slice A' ch.l.length c')) 1 (.int .i64 ch.last)
        have d0 := blk_cell hb4 0
        have d1 := blk_cell hb4 1
        simp at d0 d1
        have hr := ((hrd.set2 ⟨w.heap.size + 1, 0, none⟩ (fun h => absurd h.2 (by simp)) (.slice A' ch.l.length c')).set2 ⟨w.heap.size + 1, 1, none⟩ (fun h => absurd h.2 (by simp)) (.int .i64 ch.last)).mono fun i hi _ => hi.1
        refine bodyPost_ret (v := .agg #[.slice A' ch.l.length c', .int .i64 ch.last]) (by simp [results, Try.results61, go_sem, d0, d1]) rfl ⟨_, rfl, ?_, (H.out.2.2.2.1.set _ (.inr (by simp)) _).set _ (.inr (by simp)) _⟩
        unfold Sto.of
        rw [HL.out.1]
        exact ⟨A', c', rfl, hc', hr⟩
    · obtain rfl : k = s.kc.length := by omega
      have hnone : look key s.kc = none := look_none_iff.2 fun hm => by
        obtain ⟨p, hp, e⟩ := List.mem_map.1 hm
        obtain ⟨j, hj, rfl⟩ := List.getElem_of_mem hp
        exact hno.out j hj hj e
      have HN := Lib.hid hnone
      clear hnone
      go_wp2
      have hb4 := blk_set (blk_set H.out.2.2.1 0 (.slice none 0 0)) 1 (.int .i64 0)
      have d0 := blk_cell hb4 0
      have d1 := blk_cell hb4 1
      simp at d0 d1
      refine bodyPost_ret (v := .agg #[.slice none 0 0, .int .i64 0]) (by simp [results, Try.results61, go_sem, d0, d1]) rfl ⟨_, rfl, ?_, (H.out.2.2.2.1.set _ (.inr (by simp)) _).set _ (.inr (by simp)) _⟩
      unfold Sto.of
      rw [HN.out]
      exact ⟨none, 0, rfl, Nat.le_refl _, Rd.nil⟩
end Go.Proofs.Ytkcppngopdiljaa
