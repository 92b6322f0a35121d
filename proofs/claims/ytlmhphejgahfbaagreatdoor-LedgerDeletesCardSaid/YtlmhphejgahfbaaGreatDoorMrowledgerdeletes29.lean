/- Texts of this claim, one behind the other: Publish2, Group, Digs, ShaLaw, Arr, RefSum. -/
import Derived.Test.YtlmhphejgahfbaaGreatDoorMrowledgerdeletes27
import Derived.Test.YtlmhphejgahfbaaGreatDoorMrowledgerdeletesKGrow
import Derived.Test.YtlmhphejgahfbaaGreatDoorMrowledgerdeletes26
import Derived.Test.YtlmhphejgahfbaaGreatDoorMrowledgerdeletes5
import Derived.Test.YtlmhphejgahfbaaGreatDoorMrowledgerdeletes6
import Derived.Test.YtlmhphejgahfbaaGreatDoorMrowledgerdeletes3
import Derived.Laws.Tables
import Derived.Laws.Rows
import Derived.Deep.DeepCutAuto
/- Layer 15 (ledger): Publish of some writes. -/
set_option linter.unusedVariables false
set_option linter.unusedSimpArgs false
namespace Go.Proofs.YtlmhphejgahfbaaGreatDoor
open Go.RowKit

theorem last_mem {L : Led} (h : 1 ≤ L.sts.length) : L.last ∈ L.sts := by
  unfold Led.last
  rw [List.getLastD_eq_getLast?]
  cases hl : L.sts.getLast? with
  | none => rw [List.getLast?_eq_none_iff] at hl; rw [hl] at h; simp at h
  | some x => exact List.mem_of_getLast? hl
set_option maxHeartbeats 4000000 in
set_option maxRecDepth 100000 in
theorem publish_some {w : World} {col : Nat → Nat} {lb : Nat} {L : Led} {A : Option Addr} {c sb mb : Nat} {vst : Value} {l : List (Int × Value)} {m : Nat} {ids : List Int} {R Rw : Nat → Prop} {Ai Aw : Option Addr} {ci cw n q : Nat} {ws : List Wr} (hP : LedP w col lb L A c sb mb vst l) (hok : L.Ok m) (hm : m ≤ 4000)
    (hids : IdsAt w R Ai ids) (hRi : ∀ i, R i → ¬ (1 ≤ col i ∧ col i ≤ 4)) (hn : n = ids.length) (hci : n ≤ ci) (hR : Rd tWr w Rw Aw ws) (hRw : ∀ i, Rw i → ¬ (1 ≤ col i ∧ col i ≤ 4)) (hq : q = ws.length) (hne : ws ≠ []) (hright : right (L.s.now + 1) ws = true) (hk : ∀ x ∈ ws, x.key.size ≤ 1000) :
    Calls Tryz.prog 33 #[.pointer (some ⟨lb, 0, none⟩), .agg #[.int .i64 (L.s.now + 1), .slice Aw q cw], .slice Ai n ci] w fun e w' => e = .returned (.int .i64 0) ∧
      (∃ col' vst' l', (∀ i, i < w.heap.size → col' i = col i) ∧ LedP w' col' lb (L.publish ws ids) A c sb mb vst' l') ∧ Fr (fun i => 1 ≤ col i ∧ col i ≤ 4) w w' := by
  have hn1000 : (n : Int) ≤ 1000 := by have := hids.1; omega
  have hcin : (n : Int) ≤ (ci : Int) := by omega
  have hn0 : (0 : Int) ≤ (n : Int) := Int.natCast_nonneg _
  have hq1 : (1 : Int) ≤ (q : Int) := by have := List.length_pos_iff.2 hne; omega
  have hfit := allFit_mem (l := ws) (last := ⟨#[]⟩) (by unfold right at hright; rw [Bool.and_eq_true] at hright; exact hright.1)
  have hl64 : ws.length ≤ 64 := by unfold right at hright; simp only [Bool.and_eq_true, decide_eq_true_eq] at hright; exact hright.2.2
  have hnow0 : 0 ≤ L.s.now := hok.sto.now0
  have hnowm : L.s.now ≤ 100000000 := by have := hok.sto.now1; omega
  obtain ⟨N, hN⟩ := Int.eq_ofNat_of_zero_le (show 0 ≤ L.s.now + 1 by omega)
  have hkc := hP.kc
  obtain ⟨W1, hW1⟩ : ∃ W1, W1 = w.alloc (.cells #[.int .i64 (L.s.now + 1), .slice Aw q cw] 69) := ⟨_, rfl⟩
  have hf1 : Fr No w W1 := by rw [hW1]; exact (Fr.refl No w).alloc _
  have hs1 : W1.heap.size = w.heap.size + 1 := by rw [hW1]; simp
  have hb1 : W1.heap[w.heap.size]? = some (.cells #[.int .i64 (L.s.now + 1), .slice Aw q cw] 69 (0, 0)) := by rw [hW1]; exact heap_alloc_new w _
  obtain ⟨col0, hcol0⟩ : ∃ col0, col0 = ext col w.heap.size 9 := ⟨_, rfl⟩
  have hc0 : ∀ i, i < w.heap.size → col0 i = col i := fun i hi => by rw [hcol0]; exact ext_old col hi
  have hc9 : col0 w.heap.size = 9 := by rw [hcol0]; exact ext_new col (Nat.le_refl _)
  have hP1 : LedP W1 col0 lb L A c sb mb vst l := (hP.recol hc0).fr0 hf1
  have hR1 : Rd tWr W1 (fun i => Rw i ∧ i < w.heap.size) Aw ws := (hR.mono fun i hi hl => ⟨hi, hl⟩).fr0 hf1
  have hI1 : IdsAt W1 (fun i => R i ∧ i < w.heap.size) Ai ids := by
    refine ⟨hids.1, ?_⟩
    rcases hids.2 with h | ⟨b, o, h1, h2, h3⟩
    · exact .inl h
    · by_cases he : ids = []
      · exact .inl he
      · have hpos : 0 < ids.length := List.length_pos_iff.2 he
        exact .inr ⟨b, o, h1, ⟨h2, World.block_lt_of_cell? w _ (h3 0 hpos)⟩, fun j hj => hf1.cell (h3 j hj) (fun f => f)⟩
  have happly := fun (W : World) (f : Fr No W1 W) => store_apply_ok (c := cw) (hP1.sto.fr0 f) hok.sto (by omega) (hR1.fr0 f) (fun i hi e => hRw i hi.1 (by rw [← hc0 i hi.2]; omega)) hright
  have k1 := blk_cell hP1.blk 1
  have b0 := blk_cell hb1 0
  have b1 := blk_cell hb1 1
  simp at k1 b0 b1
  have H := Lib.hid (And.intro hP1 (And.intro hR1 (And.intro hI1 (And.intro hb1 (And.intro hf1 (And.intro hc0 (And.intro hc9 hs1)))))))
  have HC := Lib.hid (And.intro hok (And.intro hm (And.intro hRi (And.intro hRw (And.intro hn (And.intro hq (And.intro hright (And.intro hk (And.intro hfit (And.intro hl64 (And.intro hN (And.intro hnowm hne))))))))))))
  subst hq
  have HA := Lib.hid happly
  clear happly hP hok hm hids hRi hn hR hRw hne hright hk hfit hl64 hnow0 hnowm hkc hf1 hs1 hb1 hcol0 hc0 hc9 hP1 hR1 hI1
  rw [hN] at b0 HA hW1 ⊢
  clear hN
  go_enter Tryz.func33, Tryz.ntmps33
  go_wp2_with fail
  rw [← hW1]
  clear hW1
  go_wp2_with fail
  go_region_held3 (fun w' => w'.cell? ⟨lb, 1, none⟩ = some (.pointer (some ⟨sb, 0, none⟩)) ∧ w'.cell? ⟨w.heap.size, 0, none⟩ = some (.int .i64 (N : Int)) ∧ w'.cell? ⟨w.heap.size, 1, none⟩ = some (.slice Aw ws.length cw))
    (first
      | exact ⟨k1, b0, b1⟩
      | exact ⟨k1', b0', b1'⟩)
    (first
      | (go_at_call 78; refine (HA.out _ (by repeat (first | exact Fr.refl _ _ | apply Fr.drew | apply Fr.drewN))).mono ?_; rintro e2 w2 ⟨rfl, hst2, hf2⟩
         have hg2 : Fr (fun i => col0 i = 3) W1 w2 := Fr.next (by repeat (first | exact Fr.refl _ W1 | apply Fr.drew | apply Fr.drewN)) hf2 (fun _ _ e => e)
         have k1' := hg2.cell k1 (fun e => by have h2 := H.out.1.c1; rw [show col0 lb = 3 from e] at h2; omega)
         have b0' := hg2.cell b0 (fun e => by have h2 := H.out.2.2.2.2.2.2.1; rw [show col0 w.heap.size = 3 from e] at h2; omega)
         have b1' := hg2.cell b1 (fun e => by have h2 := H.out.2.2.2.2.2.2.1; rw [show col0 w.heap.size = 3 from e] at h2; omega)
         have H2 := Lib.hid (And.intro hst2 hg2)
         clear hst2 hf2 hg2))
  all_goals
    have hN := HC.out.2.2.2.2.2.2.2.2.2.2.1
    have hm := HC.out.2.1
    have hok := HC.out.1
    obtain ⟨s1, hs1⟩ : ∃ s1 : Sto, s1 = ⟨ws.foldl (Sto.put1 (N : Int)) L.s.kc, (N : Int)⟩ := ⟨_, rfl⟩
    have hst2 := H2.out.1
    rw [← hs1] at hst2
    have hsmall : s1.Small (m + 64) := by
      have h1 := Sto.Small.applied hok.sto H.out.1.sto.rising HC.out.2.2.2.2.2.2.1
      rw [hN] at h1
      rw [hs1]; exact h1
    have hP2 := H.out.1.withSto (w' := w2) (s' := s1) hst2 H2.out.2
    obtain ⟨col1, hcol1⟩ : ∃ col1, col1 = ext col0 W1.heap.size 3 := ⟨_, rfl⟩
    rw [← hcol1] at hP2
    have hc1 : ∀ i, i < W1.heap.size → col1 i = col0 i := fun i hi => by rw [hcol1]; exact ext_old col0 hi
    have hz12 := H2.out.2.size
    have hs1z := H.out.2.2.2.2.2.2.2
    have hfor : ∀ i, i < w.heap.size → (¬ (1 ≤ col i ∧ col i ≤ 4)) → ¬ (1 ≤ col1 i ∧ col1 i ≤ 4) := fun i hi h => by rw [hc1 i (by omega), H.out.2.2.2.2.2.1 i hi]; exact h
    have hR2 : Rd tWr w2 (fun i => Rw i ∧ i < w.heap.size) Aw ws := H.out.2.1.fr H2.out.2 (fun i hi e => by have h1 := HC.out.2.2.2.1 i hi.1; rw [H.out.2.2.2.2.2.1 i hi.2] at e; omega)
    have hI2 : IdsAt w2 (fun i => R i ∧ i < w.heap.size) Ai ids := H.out.2.2.1.fr H2.out.2 (fun i hi e => by have h1 := HC.out.2.2.1 i hi.1; rw [H.out.2.2.2.2.2.1 i hi.2] at e; omega)
    have hb2 := H2.out.2.blk H.out.2.2.2.1 (fun e => by have h2 := H.out.2.2.2.2.2.2.1; rw [show col0 w.heap.size = 3 from e] at h2; omega)
    have hlm := last_mem hok.sts.1
    obtain ⟨hd1, hd2, hd3, hd4, hd5⟩ := hok.st _ hlm
    have hgrow := led_grow (L := { L with s := s1 }) (m := m) (cw := cw) (N := N) hP2 hR2 rfl HC.out.2.2.2.2.2.2.2.2.2.1 (fun x hx => ⟨HC.out.2.2.2.2.2.2.2.1 x hx, (HC.out.2.2.2.2.2.2.2.2.1 x hx).2.2.1⟩) hok.sts.1 hok.sts.2 hd4 (by have := hd5; show L.last.t.len ≤ 300000; omega) (by show L.last.dig.size ≤ 1000; omega) (by have := HC.out.2.2.2.2.2.2.2.2.2.2.2.1; omega)
    have hL1 : ({ ({ L with s := s1 } : Led) with sts := Led.keep6 (L.sts ++ [⟨linkD L.last.dig (digT (Led.growT L.last.t ws)) (recB N ws), L.last.dig, sha (recB N ws), Led.growT L.last.t ws⟩]) } : Led) = L.applied ws := by
      unfold Led.applied Led.grown
      rw [hN, hs1]
    have HG := Lib.hid hgrow
    have HX := Lib.hid (And.intro hI2 (And.intro hb2 (And.intro hfor (And.intro hL1 (And.intro hsmall (And.intro hc1 (And.intro hz12 hs1z)))))))
    have HS1 := Lib.hid hs1
    clear hgrow hP2 hst2 hcol1 hc1 hR2 hI2 hb2 hd1 hd2 hd3 hd4 hd5 hlm hfor hL1 hsmall hz12 hs1z hN hm hok hs1
    go_wp2_with fail
    refine HG.out.mono ?_
    rintro e w3 ⟨rfl, ⟨col2, vst2, hk2, hP3⟩, hf3⟩
    have hP3' : LedP w3 col2 lb (L.applied ws) A c sb mb vst2 l := by rw [← HX.out.2.2.2.1]; exact hP3
    have hc21 : ∀ i, i < w.heap.size → col2 i = col i := fun i hi => by
      have h1 := HX.out.2.2.2.2.2.2.1
      have h2 := HX.out.2.2.2.2.2.2.2
      rw [hk2 i (by omega), HX.out.2.2.2.2.2.1 i (by omega), H.out.2.2.2.2.2.1 i hi]
    have hc29 : col2 w.heap.size = 9 ∧ col1 w.heap.size = 9 := by
      have h1 := HX.out.2.2.2.2.2.2.1
      have h2 := HX.out.2.2.2.2.2.2.2
      have h3 : col1 w.heap.size = 9 := by rw [HX.out.2.2.2.2.2.1 _ (by omega)]; exact H.out.2.2.2.2.2.2.1
      exact ⟨by rw [hk2 _ (by omega)]; exact h3, h3⟩
    have hI3 : IdsAt w3 (fun i => R i ∧ i < w.heap.size) Ai ids := HX.out.1.fr hf3 (fun i hi e => by have h1 := HX.out.2.2.1 i hi.2 (HC.out.2.2.1 i hi.1); omega)
    have hb3 := hf3.blk HX.out.2.1 (fun e => by have h1 := hc29.2; omega)
    have hf13 : Fr (fun i => 1 ≤ col i ∧ col i ≤ 4) w w3 := by
      have h1 := HX.out.2.2.2.2.2.2.1
      have h2 := HX.out.2.2.2.2.2.2.2
      refine ((H.out.2.2.2.2.1.mono (G := fun i => 1 ≤ col i ∧ col i ≤ 4) fun _ _ f => f.elim).next H2.out.2 (fun i hi e => ?_)).next hf3 (fun i hi e => ?_)
      · rw [H.out.2.2.2.2.2.1 i hi] at e; omega
      · rw [HX.out.2.2.2.2.2.1 i (by omega), H.out.2.2.2.2.2.1 i hi] at e; omega
    have hz3 : w.heap.size ≤ w3.heap.size := hf13.size
    have H3 := Lib.hid (And.intro hP3' (And.intro hc21 (And.intro hc29.1 (And.intro hI3 (And.intro hb3 (And.intro hf13 hz3))))))
    have hmlt3 := blk_lt hb3
    have HM3 := Lib.hid hmlt3
    clear hP3 hP3' hk2 hc21 hc29 hI3 hb3 hf3 hf13 hz3 hmlt3 k1' b0' b1'
    go_wp2_with fail
    go_loopw [30] (fun iv wr => ∃ k : Nat, k ≤ n ∧ iv = .int .i64 (k : Int) ∧ Hid (∃ l', LedP wr col2 lb ((L.applied ws).dropped (ids.take k)) A c sb mb vst2 l' ∧ Fr (fun i => i = mb) w3 wr)) (fun iv _ => n - (intOf iv).toNat)
    case atStart => exact ⟨0, Nat.zero_le _, rfl, l, H3.out.1, Fr.refl _ _⟩
    case round =>
      obtain ⟨k, hk, rfl, J⟩ := hrel
      have hk0 : (0 : Int) ≤ (k : Int) := Int.natCast_nonneg _
      obtain ⟨l', hJ, hfJ⟩ := J.out
      have hmb2 := H3.out.1.c2
      by_cases hlt : k < n
      · have hk1 : (k : Int) < (n : Int) := by omega
        have hlti : k < ids.length := by have := HC.out.2.2.2.2.1; omega
        have hidw := H3.out.2.2.2.1.fr hfJ (fun i hi e => by
          have h1 := HC.out.2.2.1 i hi.1
          have h2 := H3.out.2.1 i hi.2
          rw [show i = mb from e] at h1 h2
          omega)
        obtain ⟨ib, io, rfl, hRb, hcell⟩ : ∃ b o, Ai = some ⟨b, o, none⟩ ∧ (R b ∧ b < w.heap.size) ∧ ∀ j, j < ids.length → wr.cell? ⟨b, o + j, none⟩ = some (.int .i64 (ids.getD j 0)) := by
          rcases hidw.2 with h | ⟨b, o, h1, h2, h3⟩
          · rw [h] at hlti; exact absurd hlti (Nat.not_lt_zero _)
          · exact ⟨b, o, h1, h2, h3⟩
        have x0 := hcell k hlti
        rw [getD_at hlti] at x0
        have c2 := blk_cell hJ.blk 2
        simp at c2
        have hsn : ((L.applied ws).dropped (ids.take k)).without ids[k] = (L.applied ws).dropped (ids.take (k + 1)) := by rw [← dropped_snoc, List.take_succ_eq_append_getElem hlti]
        obtain ⟨id, hid⟩ : ∃ id, ids[k] = id := ⟨_, rfl⟩
        rw [hid] at x0 hsn
        obtain ⟨w5, hdel, hm5, hf5⟩ := run_map_wipeI (P := Tryz.prog) hJ.map 84 3 102 0 Tryz.underlying84 Tryz.underlying3 id
        have hJ5 := hJ.without id hm5 hf5
        rw [hsn] at hJ5
        have HJ5 := Lib.hid (And.intro hJ5 (hfJ.next hf5 (fun i _ e => e)))
        clear hJ5 hm5 hf5 hJ hfJ J hcell hidw hsn hid hmb2
        go_wp2_with fail
        go_roundw
        case rel => exact ⟨k + 1, by omega, by go_num, _, HJ5.out.1, HJ5.out.2⟩
        case measure => simp [intOf]; omega
      · obtain rfl : k = n := by omega
        have hbr := hfJ.blk H3.out.2.2.2.2.1 (fun e => by have h1 := H3.out.2.2.1; rw [show w.heap.size = mb from e] at h1; omega)
        have d1 := blk_cell hbr 1
        simp at d1
        have hall : ids.take k = ids := List.take_of_length_le (by have := HC.out.2.2.2.2.1; omega)
        rw [hall] at hJ
        obtain ⟨q1, q2, q3, q4, q5⟩ := dropped_parts (L.applied ws) ids
        have hnd : (((L.applied ws).dropped ids).txs.map LTx.id).Nodup := (q5.map LTx.id).nodup HC.out.1.once
        have hbelow := fun (W : World) (f : Fr No wr W) => led_below (hJ.fr0 f) (find_nodup hnd)
        have hsd : ((L.applied ws).dropped ids).s = s1 := by rw [q2]; show (⟨ws.foldl (Sto.put1 (L.s.now + 1)) L.s.kc, L.s.now + 1⟩ : Sto) = s1; rw [HC.out.2.2.2.2.2.2.2.2.2.2.1, ← HS1.out]
        have htrim := fun (W : World) (f : Fr No wr W) (a : Int) => store_trim (s := ((L.applied ws).dropped ids).s) (hJ.sto.fr0 f) (by rw [hsd]; exact HX.out.2.2.2.2.1) (by have := HC.out.2.1; omega) a
        have e1 := blk_cell hJ.blk 1
        simp at e1
        have hJblk := hJ.blk
        have HT := Lib.hid (And.intro hbelow htrim)
        have HJ := Lib.hid (And.intro hJ (And.intro hfJ hJblk))
        clear hbelow htrim hJ hfJ hJblk hbr J hall hnd hsd q1 q2 q3 q4 q5 hmb2
        go_wp2_with fail
        go_region_held3 (fun w' => w'.cell? ⟨lb, 1, none⟩ = some (.pointer (some ⟨sb, 0, none⟩)))
          (first
            | exact e1
            | exact e1'
            | exact e1'')
          (first
            | (go_at_call 81; refine (HT.out.1 _ (by repeat (first | exact Fr.refl _ _ | apply Fr.drew | apply Fr.drewN))).mono ?_; rintro e5 w5 ⟨rfl, hf5⟩
               have hg5 : Fr No wr w5 := Fr.next (by repeat (first | exact Fr.refl No wr | apply Fr.drew | apply Fr.drewN)) hf5 (fun _ _ f => f.elim)
               have e1' := hg5.cell e1 (fun f => f)
               have HG5 := Lib.hid hg5
               clear hf5 hg5)
            | (go_at_call 80; refine (HT.out.2 _ (by repeat (first | exact HG5.out | apply Fr.drew | apply Fr.drewN)) _).mono ?_; rintro e6 w6 ⟨rfl, hst6, hf6⟩
               have hg6 : Fr (fun i => col2 i = 3) w5 w6 := Fr.next (by repeat (first | exact Fr.refl _ w5 | apply Fr.drew | apply Fr.drewN)) hf6 (fun _ _ e => e)
               have e1'' := hg6.cell e1' (fun e => by have h2 := HJ.out.1.c1; rw [show col2 lb = 3 from e] at h2; omega)
               have H6 := Lib.hid (And.intro hst6 hg6)
               clear hst6 hf6 hg6))
        all_goals
          go_wp2_with fail
          go_ret
          have hP6 := (HJ.out.1.fr0 HG5.out).withSto H6.out.1 H6.out.2
          have hz1 := H3.out.2.2.2.2.2.2
          have hz2 := HJ.out.2.1.size
          have hz3 := HG5.out.size
          have hmb2 := H3.out.1.c2
          refine ⟨rfl, ⟨ext col2 w5.heap.size 3, vst2, l', fun i hi => ?_, ?_⟩, ?_⟩
          · rw [ext_old _ (by omega)]; exact H3.out.2.1 i hi
          · have hpub : L.publish ws ids = { (L.applied ws).dropped ids with s := ((L.applied ws).dropped ids).s.trim ((L.applied ws).dropped ids).below } := by unfold Led.publish; rw [if_neg HC.out.2.2.2.2.2.2.2.2.2.2.2.2]
            rw [hpub]; exact hP6
          · refine ((H3.out.2.2.2.2.2.1.next HJ.out.2.1 (fun i hi e => ?_)).next HG5.out (fun _ _ f => f.elim)).next H6.out.2 (fun i hi e => ?_)
            · have h1 := H3.out.2.1 i hi
              rw [show i = mb from e] at h1 ⊢
              omega
            · have h1 := H3.out.2.1 i hi
              rw [show col2 i = 3 from e] at h1
              omega
end Go.Proofs.YtlmhphejgahfbaaGreatDoor
/- Layer 15 (ledger): Group. -/
set_option linter.unusedVariables false
set_option linter.unusedSimpArgs false
namespace Go.Proofs.YtlmhphejgahfbaaGreatDoor
open Go.RowKit

theorem allFit_rise {last : ByteArray} {ws : List Wr} (h : ∀ y ∈ ws, kl last y.key = true) (hr : Rising (ws.map Wr.key)) (hk : ∀ x ∈ ws, 1 ≤ x.key.size ∧ x.key.size ≤ 4000 ∧ x.row.length ≤ 4000 ∧ (x.gone = true → x.row = [])) : allFit last ws = true := by
  induction ws generalizing last with
  | nil => rfl
  | cons y ws ih =>
    rw [List.map_cons] at hr
    obtain ⟨h1, h2⟩ := List.pairwise_cons.1 hr
    obtain ⟨a, b, c, d⟩ := hk y (List.mem_cons_self ..)
    unfold allFit fits
    rw [ih (fun z hz => h1 _ (List.mem_map_of_mem hz)) h2 (fun x hx => hk x (List.mem_cons_of_mem _ hx)), h y (List.mem_cons_self ..)]
    cases hg : y.gone with
    | true => have := d hg; simp [a, b, this]
    | false => simp [a, b, c]
theorem kl_empty {k : ByteArray} (h : 1 ≤ k.size) : kl ⟨#[]⟩ k = true := by
  have hne : k ≠ ⟨#[]⟩ := fun e => by rw [e] at h; exact absurd h (by decide)
  cases h1 : kl ⟨#[]⟩ k with
  | true => rfl
  | false =>
    cases h2 : kl k ⟨#[]⟩ with
    | true =>
      exfalso
      unfold kl at h2
      rw [show (⟨#[]⟩ : ByteArray).toList = [] from toList_data _] at h2
      cases hk : k.toList with
      | nil => rw [hk] at h2; cases h2
      | cons a l => rw [hk] at h2; cases h2
    | false => exact absurd (kl_tri h1 h2) (fun e => hne e.symm)
theorem right_rise {n : Int} {ws : List Wr} (hn : 1 ≤ n) (hne : ws ≠ []) (hl : ws.length ≤ 64) (hr : Rising (ws.map Wr.key)) (hk : ∀ x ∈ ws, 1 ≤ x.key.size ∧ x.key.size ≤ 4000 ∧ x.row.length ≤ 4000 ∧ (x.gone = true → x.row = [])) : right n ws = true := by
  unfold right
  rw [allFit_rise (fun y hy => kl_empty (hk y hy).1) hr hk, decide_eq_true hn, decide_eq_true (show 1 ≤ ws.length from List.length_pos_iff.2 hne), decide_eq_true hl]
  rfl

set_option maxHeartbeats 1000000 in
set_option maxRecDepth 100000 in
theorem led_group {w : World} {col : Nat → Nat} {lb : Nat} {L : Led} {m : Nat} {ids : List Int} {R : Nat → Prop} {Ai : Option Addr} {ci n : Nat} (h : LedAt w col lb L) (hok : L.Ok m) (hm : m ≤ 4000) (hids : IdsAt w R Ai ids) (hRi : ∀ i, R i → i < w.heap.size → ¬ (1 ≤ col i ∧ col i ≤ 4)) (hn : n = ids.length) (hci : n ≤ ci) (h3 : n ≤ 3) :
    Calls Tryz.prog 15 #[.pointer (some ⟨lb, 0, none⟩), .slice Ai n ci] w fun e w' => ∃ Ao co ys, e = .returned (.slice Ao n co) ∧ Ow (Ty.int .i64) 24 w' (fun i => w.heap.size ≤ i) (.slice Ao n co) (L.formN ids n).1 ∧
      ys.Perm (L.formN ids n).2 ∧ Rising (ys.map Wr.key) ∧ (∃ col', (∀ i, i < w.heap.size → col' i = col i) ∧ LedAt w' col' lb (L.publish ys ids)) ∧ Fr (fun i => 1 ≤ col i ∧ col i ≤ 4) w w' := by
  obtain ⟨A, c, sb, mb, vst, l, hP⟩ := h
  have hfw : ∀ id x, L.find id = some x → x.ws.length ≤ 20 := fun id x hx => (hok.ws x (find_id hx).2).1
  have hfk : ∀ id x, L.find id = some x → ∀ y ∈ x.ws, 1 ≤ y.key.size ∧ y.key.size ≤ 1000 ∧ y.row.length ≤ 4000 ∧ (y.gone = true → y.row = []) := fun id x hx => (hok.ws x (find_id hx).2).2
  have hform := led_form hP hids hn hci hok.sto.now0 (by have := hok.sto.now1; omega) hfw (fun id x hx y hy => by have := hfk id x hx y hy; omega)
  have hmem := formN_mem (L := L) (ids := ids) (k := n) (P := fun y => 1 ≤ y.key.size ∧ y.key.size ≤ 1000 ∧ y.row.length ≤ 4000 ∧ (y.gone = true → y.row = [])) hfk (by omega)
  have hfew := formN_few (L := L) (ids := ids) (k := n) (m := 20) hfw (by omega)
  have hnow0 := hok.sto.now0
  have H := Lib.hid (And.intro hform (And.intro hP (And.intro hok (And.intro hm (And.intro hids (And.intro hRi (And.intro hn (And.intro hci (And.intro h3 (And.intro hmem (And.intro hfew hnow0)))))))))))
  clear hform hP hok hm hids hRi hn hci h3 hfw hfk hmem hfew hnow0
  go_enter Tryz.func15, Tryz.ntmps15
  go_wp2_with fail
  refine H.out.1.mono ?_
  rintro e w1 ⟨Ao, co, Aw, cw, ys, rfl, hperm, hrise, hOy, hOe, hf1⟩
  obtain ⟨w2, hw2⟩ : ∃ w2, w2 = w1.alloc (.cells #[.int .i64 (L.s.now + 1), .slice Aw ys.length cw] 69) := ⟨_, rfl⟩
  have hf12 : Fr No w1 w2 := by rw [hw2]; exact (Fr.refl No w1).alloc _
  have hf02 : Fr No w w2 := hf1.next hf12 (fun _ _ f => f.elim)
  obtain ⟨col1, hcol1⟩ : ∃ col1, col1 = ext col w.heap.size 9 := ⟨_, rfl⟩
  have hc1 : ∀ i, i < w.heap.size → col1 i = col i := fun i hi => by rw [hcol1]; exact ext_old col hi
  have hc9 : ∀ i, w.heap.size ≤ i → col1 i = 9 := fun i hi => by rw [hcol1]; exact ext_new col hi
  have hP2 : LedP w2 col1 lb L A c sb mb vst l := (H.out.2.1.recol hc1).fr0 hf02
  have hI2 : IdsAt w2 (fun i => R i ∧ i < w.heap.size) Ai ids := by
    refine ⟨H.out.2.2.2.2.1.1, ?_⟩
    rcases H.out.2.2.2.2.1.2 with h | ⟨b, o, h1, h2, h3⟩
    · exact .inl h
    · by_cases he : ids = []
      · exact .inl he
      · exact .inr ⟨b, o, h1, ⟨h2, World.block_lt_of_cell? w _ (h3 0 (List.length_pos_iff.2 he))⟩, fun j hj => hf02.cell (h3 j hj) (fun f => f)⟩
  have hRi2 : ∀ i, (R i ∧ i < w.heap.size) → ¬ (1 ≤ col1 i ∧ col1 i ≤ 4) := fun i hi => by rw [hc1 i hi.2]; exact H.out.2.2.2.2.2.1 i hi.1 hi.2
  have hRy : Rd tWr w2 (fun i => w.heap.size ≤ i) Aw ys := (hOy.fr0 hf12).rd.2.2.wrO
  have hRw : ∀ i, w.heap.size ≤ i → ¬ (1 ≤ col1 i ∧ col1 i ≤ 4) := fun i hi => by rw [hc9 i hi]; omega
  have hpub : Calls Tryz.prog 33 #[.pointer (some ⟨lb, 0, none⟩), .agg #[.int .i64 (L.s.now + 1), .slice Aw ys.length cw], .slice Ai n ci] w2 fun e w' => e = .returned (.int .i64 0) ∧
      (∃ col', (∀ i, i < w2.heap.size → col' i = col1 i) ∧ LedAt w' col' lb (L.publish ys ids)) ∧ Fr (fun i => 1 ≤ col1 i ∧ col1 i ≤ 4) w2 w' := by
    by_cases hne : ys = []
    · subst hne
      have h0 := publish_none (Aw := Aw) (cw := cw) (N := L.s.now + 1) hP2 hI2 (fun i hi e => hRi2 i hi (by omega)) H.out.2.2.2.2.2.2.1 H.out.2.2.2.2.2.2.2.1
      refine h0.mono ?_
      rintro e w' ⟨rfl, ⟨l', hl'⟩, hf⟩
      refine ⟨rfl, ⟨col1, fun _ _ => rfl, ?_⟩, hf.mono fun i hi e => by rw [show i = mb from e, hP2.c2]; omega⟩
      unfold Led.publish
      rw [if_pos rfl]
      exact ⟨_, _, _, _, _, _, hl'⟩
    · have hk : ∀ x ∈ ys, 1 ≤ x.key.size ∧ x.key.size ≤ 1000 ∧ x.row.length ≤ 4000 ∧ (x.gone = true → x.row = []) := fun x hx => H.out.2.2.2.2.2.2.2.2.2.1 x (hperm.subset hx)
      have hright := right_rise (n := L.s.now + 1) (ws := ys) (by have := H.out.2.2.2.2.2.2.2.2.2.2.2; omega) hne (by have h1 := hperm.length_eq; have h2 := H.out.2.2.2.2.2.2.2.2.2.2.1; have h4 := H.out.2.2.2.2.2.2.2.2.1; omega) hrise (fun x hx => by have := hk x hx; exact ⟨this.1, by omega, this.2.2.1, this.2.2.2⟩)
      have h0 := publish_some (cw := cw) hP2 H.out.2.2.1 H.out.2.2.2.1 hI2 hRi2 H.out.2.2.2.2.2.2.1 H.out.2.2.2.2.2.2.2.1 hRy hRw rfl hne hright (fun x hx => (hk x hx).2.1)
      refine h0.mono ?_
      rintro e w' ⟨rfl, ⟨col', vst', l', hk', hl'⟩, hf⟩
      exact ⟨rfl, ⟨col', hk', _, _, _, _, _, _, hl'⟩, hf⟩
  have hOe2 := hOe.fr0 hf12
  rw [hw2] at hpub
  have HH := Lib.hid (And.intro hpub (And.intro hperm (And.intro hrise (And.intro hOe2 (And.intro hf02 (And.intro hc1 hc9))))))
  rw [hw2] at HH
  clear hpub hP2 hI2 hRi2 hRy hRw hcol1 hc1 hc9 hf12 hf02 hf1 hOe hOe2 hOy hperm hrise hw2
  go_wp2_with fail
  refine HH.out.1.mono ?_
  rintro e w3 ⟨rfl, ⟨col', hk', hL'⟩, hf3⟩
  have H3 := Lib.hid (And.intro hk' (And.intro hL' hf3))
  clear hk' hL' hf3
  go_wp2_with fail
  go_ret
  have hsz := HH.out.2.2.2.2.1.size
  refine ⟨Ao, co, ys, rfl, ?_, HH.out.2.1, HH.out.2.2.1, ⟨col', fun i hi => ?_, H3.out.2.1⟩, HH.out.2.2.2.2.1.mono (fun _ _ f => f.elim) |>.next H3.out.2.2 (fun i hi e => by rw [HH.out.2.2.2.2.2.1 i hi] at e; exact e)⟩
  · exact HH.out.2.2.2.1.fr H3.out.2.2 (fun i hi e => by rw [HH.out.2.2.2.2.2.2 i hi] at e; omega)
  · rw [H3.out.1 i (by omega)]; exact HH.out.2.2.2.2.2.1 i hi
end Go.Proofs.YtlmhphejgahfbaaGreatDoor
/- Layer 15 (ledger): Digests. -/
set_option linter.unusedVariables false
set_option linter.unusedSimpArgs false
namespace Go.Proofs.YtlmhphejgahfbaaGreatDoor
open Go.RowKit

theorem info_strd : (Tryz.prog.info? 9).map (fun i => (i.zero, i.size, i.bytes)) = some (some (.string ⟨#[]⟩), 1, 16) := by kernel_rfl
set_option maxHeartbeats 1000000 in
set_option maxRecDepth 100000 in
theorem led_digests {w : World} {col : Nat → Nat} {lb : Nat} {L : Led} (h : LedAt w col lb L) (hl : L.sts.length ≤ 100) :
    Calls Tryz.prog 17 #[.pointer (some ⟨lb, 0, none⟩)] w fun e w' => ∃ A c, e = .returned (.slice A L.sts.length c) ∧ Ow Ty.str 9 w' (fun i => w.heap.size ≤ i) (.slice A L.sts.length c) (L.sts.map Stt.dig) ∧ Fr No w w' := by
  obtain ⟨A, c, sb, mb, vst, l, hP⟩ := h
  obtain ⟨Av, cv, rfl, hcv, hst⟩ := hP.sts.slice
  have c4 := blk_cell hP.blk 4
  simp at c4
  have hl0 : (0 : Int) ≤ (L.sts.length : Int) := Int.natCast_nonneg _
  have hl1 : (L.sts.length : Int) ≤ 100 := by omega
  have H := Lib.hid (And.intro hst hl)
  clear hst hP hcv hl
  go_enter Tryz.func17, Tryz.ntmps17
  go_wp2_with fail
  go_loopw [3, 13] (fun v iv wr => ∃ (k : Nat) (A' : Option Addr) (c' : Nat), k ≤ L.sts.length ∧ iv = .int .i64 (k : Int) ∧ v = .slice A' k c' ∧ Hid (Ow Ty.str 9 wr (fun i => w.heap.size ≤ i) (.slice A' k c') ((L.sts.take k).map Stt.dig) ∧ Fr No w wr)) (fun _ iv _ => L.sts.length - (intOf iv).toNat)
  case atStart => exact ⟨0, none, 0, Nat.zero_le _, rfl, rfl, Ow.nil, Fr.refl No w⟩
  case round =>
    obtain ⟨k, A', c', hk, rfl, rfl, I⟩ := hrel
    have hk0 : (0 : Int) ≤ (k : Int) := Int.natCast_nonneg _
    by_cases hlt : k < L.sts.length
    · have hk1 : (k : Int) < (L.sts.length : Int) := by omega
      obtain ⟨ad, v, rfl, x0, x1, x2, x3, hn⟩ := stt_at (H.out.1.fr0 I.out.2) hlt
      obtain ⟨vo, rfl⟩ : ∃ o, v = .pointer o := by
        cases ht : L.sts[k].t with
        | nil => rw [ht] at hn; exact ⟨none, hn⟩
        | leaf key r => rw [ht] at hn; obtain ⟨b, A, c, rfl, _⟩ := hn; exact ⟨_, rfl⟩
        | node l r => rw [ht] at hn; obtain ⟨b, vl, vr, rfl, _⟩ := hn; exact ⟨_, rfl⟩
      have hsucc : (L.sts.take k).map Stt.dig ++ [L.sts[k].dig] = (L.sts.take (k + 1)).map Stt.dig := by rw [List.take_succ_eq_append_getElem hlt, List.map_append]; rfl
      have hlen : ((L.sts.take k).map Stt.dig).length = k := by rw [List.length_map, List.length_take]; omega
      obtain ⟨x, hx⟩ : ∃ x, L.sts[k] = x := ⟨_, rfl⟩
      rw [hx] at x0 x1 x2 hsucc
      clear hx hn
      obtain ⟨W1, hW1⟩ : ∃ W1, W1 = (wr.alloc (.cells #[.string x.dig, .string x.last, .string x.sum, .pointer vo] 81)).alloc (.cells #[.string x.dig] 9) := ⟨_, rfl⟩
      have hf1 : Fr No wr W1 := by rw [hW1]; exact ((Fr.refl No wr).alloc _).alloc _
      have hA : At W1 (some ⟨wr.heap.size + 1, 0, none⟩) [.string x.dig] := by rw [hW1]; exact At.block (blk_two2 wr _ _)
      have hl2 := H.out.2
      obtain ⟨A1, c1, w1, hrun, hO1, hg1, _⟩ := run_ow_append (P := Tryz.prog) (ty := 40) (ty' := 40) Ty.str (I.out.1.fr0 hf1) (.string ⟨#[]⟩) 16 Tryz.underlying40 info_strd rfl (by decide) (by decide) 1 (ys := [x.dig]) (Row.single (t := Ty.str) rfl) hA (by rw [hlen]; simp only [List.length_singleton]; omega)
      rw [hlen] at hrun hO1
      simp only [List.length_singleton] at hrun hO1
      rw [hsucc] at hO1
      have hz := Nat.le_trans I.out.2.size hf1.size
      have HH := Lib.hid (And.intro (hO1.mono (G := fun i => w.heap.size ≤ i) fun i hi _ => by rcases hi with hi | hi <;> omega) ((I.out.2.next hf1 (fun _ _ f => f.elim)).grown hg1 fun k hk => .inr (I.out.1.own hk).1))
      clear hf1 hA hl2 hO1 hg1 hz hlen hsucc
      go_wp2_with (at_builtin; rw [← hW1]; refine wpList_plain rfl fun K hK => wp_append_run _ _ _ _ rfl rfl rfl hrun (hK _ _ ?_))
      go_roundw
      case rel => exact ⟨k + 1, A1, c1, by omega, by go_num, rfl, HH.out.1, HH.out.2⟩
      case measure => simp [intOf]; omega
    · obtain rfl : k = L.sts.length := by omega
      rw [List.take_length] at I
      go_wp2_with fail
      go_ret
      exact ⟨A', c', rfl, I.out.1, I.out.2⟩
end Go.Proofs.YtlmhphejgahfbaaGreatDoor
/- SHA-256: the reference's schedule and rounds are the program's: plain laws. -/
set_option linter.unusedVariables false
set_option linter.unusedSimpArgs false
namespace Go.Proofs.YtlmhphejgahfbaaGreatDoor
open Go.RowKit

/-- The schedule's k-th word. -/
def wS (p : Bs) (k : Nat) : W32 := wordAt (ringAt p k) k
theorem ringAt_small (p : Bs) : ∀ k, k ≤ 16 → ringAt p k = inAll (fun _ => 0) 0 p
  | 0, _ => rfl
  | k + 1, h => by
    show ringNext (ringAt p k) k = _
    unfold ringNext
    rw [if_pos (by omega), ringAt_small p k (by omega)]
theorem wS_small (p : Bs) {k : Nat} (h : k < 16) : wS p k = inAll (fun _ => 0) 0 p k := by
  unfold wS wordAt
  rw [if_pos h, ringAt_small p k (by omega)]
theorem ring_wS (p : Bs) : ∀ k, 16 ≤ k → ∀ i, k ≤ i + 16 → i < k → ringAt p k (i % 16) = wS p i := by
  intro k hk
  induction k with
  | zero => omega
  | succ k ih =>
    intro i h1 h2
    by_cases h16 : k + 1 = 16
    · rw [ringAt_small p _ (by omega), wS_small p (by omega), Nat.mod_eq_of_lt (by omega)]
    · show ringNext (ringAt p k) k _ = _
      unfold ringNext upd
      rw [if_neg (by omega)]
      by_cases e : i = k
      · subst e
        show (if i % 16 = i % 16 then _ else _) = _
        rw [if_pos rfl]
        unfold wS wordAt
        rw [if_neg (by omega)]
      · show (if i % 16 = k % 16 then _ else _) = _
        rw [if_neg (by omega)]
        exact ih (by omega) i (by omega) (by omega)
theorem wS_next (p : Bs) {k : Nat} (h : 16 ≤ k) : wS p k = wS p (k - 16) + wS p (k - 7) + sg0 (wS p (k - 15)) + sg1 (wS p (k - 2)) := by
  have e : wS p k = nextW (ringAt p k) k := by unfold wS wordAt; rw [if_neg (by omega)]
  rw [e]
  unfold nextW
  rw [show k % 16 = (k - 16) % 16 by omega, show (k + 1) % 16 = (k - 15) % 16 by omega, show (k + 9) % 16 = (k - 7) % 16 by omega, show (k + 14) % 16 = (k - 2) % 16 by omega]
  rw [ring_wS p k h _ (by omega) (by omega), ring_wS p k h _ (by omega) (by omega), ring_wS p k h _ (by omega) (by omega), ring_wS p k h _ (by omega) (by omega)]
  rw [BitVec.add_comm (sg0 _) (wS p (k - 7)), BitVec.add_assoc, BitVec.add_assoc, BitVec.add_assoc]

/-- The first words are the bytes. -/
def seg (p : Bs) (i : Nat) : Bs := (p.drop (4 * i)).take 4
theorem word_snoc (r : Nat) (b : UInt8) : (BitVec.ofNat 32 r <<< 8) ||| b32 b = BitVec.ofNat 32 (256 * r + b.toNat) := by
  apply BitVec.eq_of_toNat_eq
  have hb := b.toNat_lt
  unfold b32
  rw [BitVec.toNat_or, BitVec.toNat_shiftLeft, BitVec.toNat_ofNat, BitVec.toNat_ofNat, BitVec.toNat_ofNat]
  have h1 : (r % 2 ^ 32) <<< 8 % 2 ^ 32 = (r % 2 ^ 24) <<< 8 := by rw [Nat.shiftLeft_eq, Nat.shiftLeft_eq]; omega
  have h2 : b.toNat % 2 ^ 32 = b.toNat := by omega
  rw [h1, h2, ← Nat.shiftLeft_add_eq_or_of_lt (by omega), Nat.shiftLeft_eq]
  omega
theorem inAll_at (p : Bs) (i : Nat) : inAll (fun _ => 0) 0 p i = BitVec.ofNat 32 (rdN (seg p i)) := by
  suffices ∀ n, n ≤ p.length → inAll (fun _ => 0) 0 (p.take n) i = BitVec.ofNat 32 (rdN (seg (p.take n) i)) by
    have := this p.length (Nat.le_refl _)
    rwa [List.take_length] at this
  intro n
  induction n with
  | zero => intro _; unfold seg; simp; rfl
  | succ n ih =>
    intro hn
    have ih := ih (by omega)
    have hl : (p.take n).length = n := by rw [List.length_take]; omega
    rw [List.take_succ_eq_append_getElem (by omega), inAll_snoc, hl, Nat.zero_add]
    obtain ⟨b, hb⟩ : ∃ b, p[n] = b := ⟨_, rfl⟩
    rw [hb]
    unfold inB1 upd
    by_cases e : i = n / 4
    · subst e
      rw [if_pos rfl, ih, word_snoc, ← rdN_snoc]
      congr 2
      unfold seg
      rw [List.drop_append_of_le_length (by omega), List.take_of_length_le (l := List.drop _ _ ++ [b]) (by simp; omega), List.take_of_length_le (by simp; omega)]
    · rw [if_neg e, ih]
      congr 2
      unfold seg
      rcases Nat.lt_or_ge i (n / 4) with h | h
      · rw [List.drop_append_of_le_length (by omega), List.take_append_of_le_length (by simp; omega)]
      · rw [List.drop_eq_nil_of_le (by omega), List.drop_eq_nil_of_le (by simp; omega)]
theorem wS_first (p : Bs) {k : Nat} (h : k < 16) : wS p k = BitVec.ofNat 32 (rdN (seg p k)) := by rw [wS_small p h, inAll_at]

/-- Choice and most. -/
theorem choice_eq (e f g : W32) : (e &&& f) ||| (~~~e &&& g) = g ^^^ (e &&& (f ^^^ g)) := by
  apply BitVec.eq_of_getLsbD_eq
  intro i hi
  simp only [BitVec.getLsbD_or, BitVec.getLsbD_and, BitVec.getLsbD_xor, BitVec.getLsbD_not, hi, decide_true, Bool.true_and]
  cases e.getLsbD i <;> cases f.getLsbD i <;> cases g.getLsbD i <;> rfl
theorem most_eq (a b c : W32) : (a &&& b) ^^^ (a &&& c) ^^^ (b &&& c) = (a &&& b) ||| (c &&& (a ||| b)) := by
  apply BitVec.eq_of_getLsbD_eq
  intro i hi
  simp only [BitVec.getLsbD_or, BitVec.getLsbD_and, BitVec.getLsbD_xor]
  cases a.getLsbD i <;> cases b.getLsbD i <;> cases c.getLsbD i <;> rfl
theorem U_not (x : W32) : IntKind.u32.wrap (4294967295 - U x) = U (~~~x) := by
  rw [wrap_u32]
  unfold U
  rw [BitVec.toNat_not]
  have := x.isLt
  omega
theorem U_not' (x : W32) : 4294967295 - U x = U (~~~x) := by
  have h := U_not x
  rw [wrap_u32] at h
  have := U_lt x
  have := U_nonneg x
  omega
theorem be8_beN (n : Nat) : be8 n = beN n 8 := by
  unfold be8 beN
  apply List.map_congr_left
  intro j hj
  rw [List.mem_range] at hj
  rw [show 8 * (8 - 1 - j) = 56 - 8 * j by omega]
theorem be4_beN (x : W32) : be4 x = beN x.toNat 4 := by
  unfold be4 beN
  apply List.map_congr_left
  intro j hj
  rw [List.mem_range] at hj
  rw [show 8 * (4 - 1 - j) = 24 - 8 * j by omega]
end Go.Proofs.YtlmhphejgahfbaaGreatDoor
/- Arrays made, stored and loaded whole. -/
set_option linter.unusedVariables false
set_option linter.unusedSimpArgs false
namespace Go.Proofs.YtlmhphejgahfbaaGreatDoor
open Go.RowKit

set_option maxRecDepth 100000 in
theorem run_alloc64 (w : World) : (Instr.alloc 162 true (.tuple #[])).run Tryz.prog w = .ok (.pointer (some ⟨w.heap.size, 0, none⟩)) (w.alloc (.cells (Array.replicate 64 (.int .u32 0)) 162)) := by
  have e : (Array.replicate 64 (Value.int .u32 0)) = #[.int .u32 0, .int .u32 0, .int .u32 0, .int .u32 0, .int .u32 0, .int .u32 0, .int .u32 0, .int .u32 0, .int .u32 0, .int .u32 0, .int .u32 0, .int .u32 0, .int .u32 0, .int .u32 0, .int .u32 0, .int .u32 0, .int .u32 0, .int .u32 0, .int .u32 0, .int .u32 0, .int .u32 0, .int .u32 0, .int .u32 0, .int .u32 0, .int .u32 0, .int .u32 0, .int .u32 0, .int .u32 0, .int .u32 0, .int .u32 0, .int .u32 0, .int .u32 0, .int .u32 0, .int .u32 0, .int .u32 0, .int .u32 0, .int .u32 0, .int .u32 0, .int .u32 0, .int .u32 0, .int .u32 0, .int .u32 0, .int .u32 0, .int .u32 0, .int .u32 0, .int .u32 0, .int .u32 0, .int .u32 0, .int .u32 0, .int .u32 0, .int .u32 0, .int .u32 0, .int .u32 0, .int .u32 0, .int .u32 0, .int .u32 0, .int .u32 0, .int .u32 0, .int .u32 0, .int .u32 0, .int .u32 0, .int .u32 0, .int .u32 0, .int .u32 0] := by rfl
  rw [e]
  simp [Instr.alloc, Tryz.zeroValue162, newVar, newRow, Value.cells]
theorem wpList_alloc64 {ops : Array Oper} {rest : List Oper} {o : Oper} {a : Act} {w : World} {Q : Exit → Act → World → Prop} (hgd : o.guard = none) (ho : o.op = .alloc 162)
    (h : wpList Tryz.prog ops Q rest (a.put o.dst (.pointer (some ⟨w.heap.size, 0, none⟩))) (w.alloc (.cells (Array.replicate 64 (.int .u32 0)) 162))) : wpList Tryz.prog ops Q (o :: rest) a w := by
  refine wpList_plain hgd fun K hK => ?_
  unfold Oper.wp
  simp only [execOp, ho, Sem.run_bind, Sem.run_pure, Result.andThen_ok, run_alloc64]
  exact hK _ _ h
set_option maxRecDepth 100000 in
theorem wpList_store64 {ops : Array Oper} {rest : List Oper} {o : Oper} {a : Act} {w : World} {Q : Exit → Act → World → Prop} (hgd : o.guard = none) (hd : o.dst = none) (x y : Operand) (ho : o.op = .store 162 x y)
    (c c' : Array Value) (hx : a.eval x = .pointer (some ⟨w.heap.size, 0, none⟩)) (hy : a.eval y = .agg c') (hi : c'.size = 64) (hold : c.size = 64) (h1 : c'.all (·.oneCell') = true)
    (h : wpList Tryz.prog ops Q rest a (w.alloc (.cells c' 162))) : wpList Tryz.prog ops Q (o :: rest) a (w.alloc (.cells c 162)) := by
  have hinfo : (Tryz.prog.info? 162).map (·.size) = some 64 := by kernel_rfl
  refine wpList_store_row hgd _ x y ho _ c' hx hy _ c (heap_alloc_new w _) (by rw [hi]; exact hinfo) (by rw [hi, hold]) h1 ?_
  rw [hd]
  have : (w.alloc (.cells c 162)).setRow w.heap.size c' = w.alloc (.cells c' 162) := by
    simp only [World.setRow, World.alloc]
    congr 1
    apply Array.ext_getElem?
    intro i
    rw [Array.getElem?_modify]
    by_cases h : w.heap.size = i
    · subst h; simp
    · have h' : ¬ i = w.heap.size := fun e => h e.symm
      simp [h, h', Array.getElem?_push]
  rw [this]
  exact h
theorem Words.of {w : World} {b : Nat} {n : Nat} {cs : Array Value} {tt : TypeId} {R : Nat → W32} (hb : w.heap[b]? = some (.cells cs tt (0, 0))) (hs : cs.size = n) (h : ∀ j, j < n → cs[j]? = some (.int .u32 (U (R j)))) : Words w b 0 n R :=
  ⟨cs, tt, hb, by omega, fun j hj => by rw [Nat.zero_add]; exact h j hj⟩
end Go.Proofs.YtlmhphejgahfbaaGreatDoor
/- Reference 3 (sha): Sum. -/
set_option linter.unusedVariables false
set_option linter.unusedSimpArgs false
namespace Go.Proofs.YtlmhphejgahfbaaGreatDoor
open Go.RowKit

set_option maxHeartbeats 2000000 in
set_option maxRecDepth 100000 in
theorem constants_ok (w : World) : Calls Tryz.prog 92 #[] w fun e w' => e = .returned (.agg KV) ∧ Fr No w w' := by
  go_enter Tryz.func92, Tryz.ntmps92
  go_wp2_with (first
    | refine wpList_alloc64 rfl rfl ?_
    | refine wpList_store64 rfl rfl _ _ rfl _ KV rfl rfl rfl (by rfl) (by decide +kernel) ?_)
  refine bodyPost_ret (results_cell_row rfl _ _ w.heap.size 162 KV (0, 0) _ rfl (heap_alloc_new w _) Tryz.underlying162 rfl (by kernel_rfl)) rfl ?_
  exact ⟨rfl, (Fr.refl No w).alloc _⟩

theorem words_kv {w : World} {b : Nat} (h : w.heap[b]? = some (.cells KV 162 (0, 0))) : Words w b 0 64 Kc := Words.of h rfl fun j hj => KV_at hj
end Go.Proofs.YtlmhphejgahfbaaGreatDoor
