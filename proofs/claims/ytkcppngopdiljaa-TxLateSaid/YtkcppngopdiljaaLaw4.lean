/- Laws of layer 13 (store): stored, the walk. -/
import Derived.Test.YtkcppngopdiljaaLaw3
set_option linter.unusedVariables false
set_option linter.unusedSimpArgs false
namespace Go.Proofs.Ytkcppngopdiljaa
open Go.RowKit

/-- What stored answers. -/
structure Stored (w w3 : World) (sb : Nat) (s : Sto) (A : Option Addr) (c : Nat) (B : Option Addr) (d : Nat) : Prop where
  made : ∀ w4 b, Fr No w3 w4 → w3.heap.size ≤ b → w4.heap[b]? = some (.cells #[.slice A s.kc.length c, .slice B s.kc.length d, .int .i64 s.now] 55 (0, 0)) → Mid w w4 sb b s s No
theorem mid_stored {w w0 wr : World} {sb bx : Nat} {s : Sto} {R : Nat → Prop} {A B : Option Addr} {c d : Nat} (h : Mid w0 wr sb bx s s R) (f0 : Fr No w w0) (hsz : w0.heap.size = w.heap.size + 1) (hb : wr.heap[bx]? = some (.cells #[.slice A s.kc.length c, .slice B s.kc.length d, .int .i64 s.now] 55 (0, 0))) :
    let w3 := ((wr.setCell ⟨w.heap.size, 0, none⟩ (.slice A s.kc.length c)).setCell ⟨w.heap.size, 1, none⟩ (.slice B s.kc.length d)).setCell ⟨w.heap.size, 2, none⟩ (.int .i64 s.now)
    Stored w w3 sb s A c B d ∧ Fr No w w3 := by
  obtain ⟨⟨FS, FM, h1, h2, h3, h4⟩, h5, h6⟩ := h
  obtain ⟨A0, c0, B0, d0, h8, h7⟩ := h2.box
  rw [hb] at h8
  injection h8 with h8
  simp only [Obj.cells.injEq, Array.mk.injEq, List.cons.injEq, Value.slice.injEq] at h8
  obtain ⟨⟨⟨rfl, _, rfl⟩, ⟨rfl, _, rfl⟩, _⟩, _⟩ := h8
  have hfr : Fr (fun i => i = w.heap.size) wr (((wr.setCell ⟨w.heap.size, 0, none⟩ (.slice A s.kc.length c)).setCell ⟨w.heap.size, 1, none⟩ (.slice B s.kc.length d)).setCell ⟨w.heap.size, 2, none⟩ (.int .i64 s.now)) :=
    (((Fr.refl (fun i => i = w.heap.size) wr).set ⟨w.heap.size, 0, none⟩ (.inl rfl) _).set ⟨w.heap.size, 1, none⟩ (.inl rfl) _).set ⟨w.heap.size, 2, none⟩ (.inl rfl) _
  have hwr : Fr No w wr := f0.trans (h5.mono fun _ _ f => f.elim)
  have hz := hfr.size
  have hFS : ∀ i, FS i → i ≠ w.heap.size := fun i hi e => by have := (h3 i hi).1; omega
  have hFM : ∀ i, FM i → i ≠ w.heap.size := fun i hi e => by have := (h4 i hi).2; omega
  have h1' := h1.fr hfr hFS
  have h7' := h7.fr hfr hFM
  have hw3 := hwr.trans (hfr.mono fun i _ e => .inr (by omega))
  refine ⟨⟨fun w4 b f4 hlb hblk => ⟨⟨FS, FM, h1'.fr0 f4, ⟨A, c, B, d, hblk, h7'.fr0 f4⟩, fun i hi => ?_, fun i hi => ?_⟩, hw3.trans (f4.mono fun _ _ f => f.elim), ?_⟩⟩, hw3⟩
  · have g3 := h3 i hi
    have := f4.size
    exact ⟨by omega, g3.2.1, by omega, fun f => f, by omega⟩
  · have g4 := h4 i hi
    have := f4.size
    exact ⟨⟨by omega, by omega⟩, by omega⟩
  · have := hw3.size
    omega

/-- What stands at the loop's head. -/
structure StInv (w0 wr : World) (sb bx : Nat) (s : Sto) (ls : List (List Actn)) (k : Nat) : Prop where
  le : k ≤ ls.length
  mid : ∃ s, s = stAll Sto.empty (ls.take k) ∧ Mid w0 wr sb bx s s No

theorem nowi {s : Sto} {m : Nat} (h : s.Fine m) (hm : m ≤ 100000000) : 0 ≤ s.now ∧ s.now ≤ 100000000 := ⟨h.small.now0, by have := h.small.now1; omega⟩

set_option maxHeartbeats 4000000 in
set_option maxRecDepth 100000 in
theorem law_stored {w : World} {F : Nat → Prop} {D : Option Addr} {e : Nat} {ls : List (List Actn)} (h : Rd (Ty.slice tAct) w F D ls) (hlots : lotsB ls = true) :
    Calls Try.prog 22 #[.slice D ls.length e] w fun e w' => ∃ sb A c B d, e = .returned (.tuple #[.pointer (some ⟨sb, 0, none⟩), .agg #[.slice A (stAll Sto.empty ls).kc.length c, .slice B (stAll Sto.empty ls).kc.length d, .int .i64 (stAll Sto.empty ls).now]]) ∧
      Stored w w' sb (stAll Sto.empty ls) A c B d ∧ Fr No w w' := by
  obtain ⟨hl20, hl10⟩ := lotsB_all hlots
  have hlI : (ls.length : Int) ≤ 20 := by omega
  obtain ⟨w0, hw0⟩ : ∃ w0, w0 = w.alloc (.cells #[.slice none 0 0, .slice none 0 0, .int .i64 0] 55) := ⟨_, rfl⟩
  have hsz0 : w0.heap.size = w.heap.size + 1 := by rw [hw0]; simp
  have hf0 : Fr No w w0 := by rw [hw0]; exact (Fr.refl No w).alloc _
  have hb0 : w0.heap[w.heap.size]? = some (.cells #[.slice none 0 0, .slice none 0 0, .int .i64 0] 55 (0, 0)) := by rw [hw0]; exact heap_alloc_new w _
  have H := Lib.hid (And.intro (h.mono fun i hi hl => (⟨hi, hl⟩ : F i ∧ i < w.heap.size)) (And.intro hl10 (And.intro hsz0 (And.intro hf0 hb0))))
  clear h hl10 hlots hsz0 hf0 hb0
  go_enter Try.func22, Try.ntmps22
  go_wp2_with fail
  rw [← hw0]
  clear hw0
  refine (store_new w0).mono ?_
  rintro e1 w1 ⟨sb, rfl, hs1, hf1⟩
  obtain ⟨W, hW⟩ : ∃ W, W = w1.alloc (.cells #[.slice none 0 0, .slice none 0 0, .int .i64 0] 55) := ⟨_, rfl⟩
  have hfW : Fr No w1 W := by rw [hW]; exact (Fr.refl No w1).alloc _
  have hsW : W.heap.size = w1.heap.size + 1 := by rw [hW]; simp
  have hbW : W.heap[w1.heap.size]? = some (.cells #[.slice none 0 0, .slice none 0 0, .int .i64 0] 55 (0, 0)) := by rw [hW]; exact heap_alloc_new w1 _
  have hM : Mid w0 W sb w1.heap.size Sto.empty Sto.empty No := ⟨⟨fun i => w0.heap.size ≤ i ∧ i < w1.heap.size, fun _ => False, (hs1.mono fun i hi hl => ⟨hi, hl⟩).fr0 hfW, ⟨none, 0, none, 0, hbW, none, 0, none, 0, rfl, Nat.le_refl _, Nat.le_refl _, Rd.nil, Rd.nil⟩, fun i hi => ⟨hi.1, fun f => f, by have := hi.2; omega, fun f => f, by have := hi.2; omega⟩, fun i hi => hi.elim⟩, hf1.trans (hfW.mono fun _ _ f => f.elim), hf1.size⟩
  have HM := Lib.hid hM
  clear hs1 hf1 hfW hsW hbW hM
  go_wp2_with fail
  rw [← hW]
  clear hW
  go_loopw [6] (fun i wr => ∃ (k : Nat), i = .int .i64 k ∧ Hid (StInv w0 wr sb w1.heap.size Sto.empty ls k)) (fun i _ => ls.length - (intOf i).toNat)
  case atStart => exact ⟨0, rfl, ⟨Nat.zero_le _, _, rfl, HM.out⟩⟩
  case round =>
    obtain ⟨k, rfl, I⟩ := hrel
    have hq0 : (0 : Int) ≤ (k : Int) := Int.natCast_nonneg _
    obtain ⟨s, hse, hMid⟩ := I.out.mid
    have hkl := I.out.le
    have hfine : s.Fine 1280 := by rw [hse]; exact (stAll_fine empty_fine (ls.take k)).mono (by have := List.length_take_le' k ls; omega)
    obtain ⟨hn0, hn1⟩ := nowi hfine (by omega)
    have hwr : Fr No w wr := H.out.2.2.2.1.trans (hMid.fr.mono fun _ _ f => f.elim)
    have HMid := Lib.hid hMid
    obtain ⟨A, c, B, d, hblk, _⟩ := hMid.blk
    have a0 := blk_cell hblk 0
    have a1 := blk_cell hblk 1
    have a2 := blk_cell hblk 2
    simp at a0 a1 a2
    clear hMid
    by_cases hlt : k < ls.length
    · have hq1 : (k : Int) < (ls.length : Int) := by omega
      obtain ⟨ad, A', c', rfl, x0, hc', hr'⟩ := acts_at (H.out.1.fr0 hwr) hlt
      have hstep : stAll Sto.empty (ls.take (k + 1)) = stStep s ls[k] := by rw [List.take_succ_eq_append_getElem hlt, stAll_snoc, ← hse]
      have h10 := H.out.2.1 _ (List.getElem_mem hlt)
      obtain ⟨a, ha⟩ : ∃ a, ls[k] = a := ⟨_, rfl⟩
      rw [ha] at x0 hc' hr' hstep h10
      have hin : (a.length : Int) ≤ 10 := by omega
      by_cases hz : a.length = 0
      · have hst : stStep s a = s := by unfold stStep; rw [if_pos hz]
        have HS := Lib.hid (And.intro (hstep.trans hst) (And.intro hblk hfine))
        have hz' : (a.length : Int) = 0 := by omega
        clear hstep hst ha hc' hr' hse hblk hfine hz
        generalize a.length = n at *
        obtain rfl : n = 0 := by omega
        clear hz' hin
        go_wp2
        go_roundw
        case rel => exact ⟨k + 1, by go_num, ⟨by omega, s, HS.out.1.symm, HMid.out⟩⟩
        case measure => simp [intOf]; omega
      · have hst : stStep s a = (s.apply (s.now + 1) (batchW a)).1 := by unfold stStep; rw [if_neg hz]
        have hcode := apply_batch hfine hz (by omega)
        have hz' : ((a.length : Int) == 0) = false := by rw [beq_eq_false_iff_ne]; omega
        have hwb := batchW_len a
        have hbk : ∀ x ∈ batchW a, x.key.size ≤ 9223372036854775807 := fun x hx => by have := (batchW_mem hx).1; omega
        have hbat := fun w' (f : Fr No wr w') => ref_batch (e := c') (s.now + 1) (hr'.fr0 f) (by omega)
        rw [hst] at hstep
        obtain ⟨s1, hs1⟩ : ∃ s1, (s.apply (s.now + 1) (batchW a)).1 = s1 := ⟨_, rfl⟩
        rw [hs1] at hstep
        have HS := Lib.hid (And.intro hstep (And.intro hcode (And.intro hbk (And.intro hbat (And.intro hs1 hfine)))))
        have hwbI : (batchW a).length ≤ 10 := by omega
        have hwrap : IntKind.i64.wrap (s.now + 1) = s.now + 1 := IntWalk.i64_in _ (by omega)
        clear hstep hst ha hc' hr' hse hblk hcode hbk hbat hs1 hfine hwb
        go_wp2_with fail
        go_cut [7] (fun s7 wx => ∃ b : Nat, s7 = .pointer (some ⟨b, 0, none⟩) ∧ Hid (BatBox wr wx b (s.now + 1) (batchW a)))
        case first =>
          go_region_held3 (fun w' => w'.cell? ⟨w1.heap.size, 2, none⟩ = some (.int .i64 s.now) ∧ w'.cell? (ad.add k) = some (.slice A' a.length c'))
            (first
              | exact ⟨a2, x0⟩
              | exact ⟨cell_alloc a2 _, cell_alloc x0 _⟩
              | exact ⟨q0, q1⟩
              | exact ⟨cell_set2 q0 (World.block_lt_of_cell? wr _ a2) _ _, cell_set2 q1 (World.block_lt_of_cell? wr _ x0) _ _⟩
              | exact ⟨cell_alloc q0 _, cell_alloc q1 _⟩)
            (first
              | (go_at_call 37; refine (HS.out.2.2.2.1 _ (by repeat (first | exact Fr.refl _ _ | apply Fr.alloc | apply Fr.drew | apply Fr.drewN))).mono ?_; rintro e6 w6 ⟨A6, c6, rfl, hf6, hc6, hr6⟩
                 have hg6 : Fr No wr w6 := Fr.trans (by repeat (first | exact Fr.refl _ _ | apply Fr.alloc | apply Fr.drew | apply Fr.drewN)) (hf6.mono fun _ _ f => f.elim)
                 have q0 := hg6.cell a2 (fun f => f)
                 have q1 := hg6.cell x0 (fun f => f)
                 first
                   | (have bN : w6.heap[wr.heap.size]? = some (.cells #[.int .i64 0, .slice none 0 0] 40 (0, 0)) := hf6.blk (heap_alloc_new _ _) (fun f => f)
                      have m0 := blk_cell bN 0
                      have m1 := blk_cell bN 1
                      have y0 := blk_frozen bN 0
                      have y1 := blk_frozen bN 1
                      simp at m0 m1)
                   | skip
                 have H6 := Lib.hid (And.intro hf6 (And.intro hc6 hr6))
                 clear hf6 hc6 hr6 hg6))
          all_goals go_wp2_with fail
          all_goals go_meet
          all_goals first
            | exact ⟨_, rfl, bat_behind (by repeat (first | exact Fr.refl _ _ | apply Fr.alloc | apply Fr.drew | apply Fr.drewN)) H6.out.1 H6.out.2.1 H6.out.2.2⟩
            | (refine ⟨_, rfl, bat_before (w0 := wr.drew.alloc (.cells #[.int .i64 0, .slice none 0 0] 40)) ?_ ?_ ?_ H6.out.1 H6.out.2.1 H6.out.2.2⟩
               · repeat (first | exact Fr.refl _ _ | apply Fr.alloc | apply Fr.drew | apply Fr.drewN)
               · simp
               · exact heap_alloc_new wr _)
        case rest =>
          obtain ⟨b, rfl, HB⟩ := hcut
          obtain ⟨A8, c8, hb8, hc8, hr8⟩ := HB.out.box
          have hRb : wr.heap.size ≤ b ∧ b < wc.heap.size := ⟨HB.out.lt, blk_lt hb8⟩
          have hr8' := hr8.mono (G := fun i => wr.heap.size ≤ i ∧ i < wc.heap.size) fun i hi hl => ⟨hi.1, hl⟩
          have hap := (HMid.out.add HB.out.fr |>.mono (R' := fun i => wr.heap.size ≤ i ∧ i < wc.heap.size) fun i hi => .inr hi.1).apply (c' := c8) (s.now + 1) (fun i hi => hi.2) HS.out.2.2.2.2.2.small (by omega) hr8' (by omega) HS.out.2.2.1
          rw [HS.out.2.1, HS.out.2.2.2.2.1] at hap
          have k0 := blk_cell hb8 0
          have k1 := blk_cell hb8 1
          simp at k0 k1
          have HA := Lib.hid (And.intro hap (And.intro hb8 (And.intro hr8' hRb)))
          clear hap hb8 hc8 hr8 hr8' hRb
          go_wp2_with fail
          refine HA.out.1.mono ?_
          rintro e2 w2 ⟨rfl, hm2, S, hfS, hRS⟩
          have hb2 := hfS.blk HA.out.2.1 (hRS b HA.out.2.2.2)
          obtain ⟨A2, c2, B2, d2, hbx, href⟩ := hm2.ref (c' := c8) (s.now + 1) HS.out.2.2.2.2.2 (by omega) (HA.out.2.2.1.fr hfS fun i hi => hRS i hi) (by omega) HS.out.2.2.1
          rw [HS.out.2.1, HS.out.2.2.2.2.1] at href
          have j0 := blk_cell hb2 0
          have j1 := blk_cell hb2 1
          have l0 := blk_cell hbx 0
          have l1 := blk_cell hbx 1
          have l2 := blk_cell hbx 2
          simp at j0 j1 l0 l1 l2
          have HR := Lib.hid (And.intro href hbx)
          clear href hbx hb2 hm2 hfS hRS a0 a1 a2 x0
          go_wp2_with fail
          refine HR.out.1.mono ?_
          rintro e3 w3 ⟨A3, c3, B3, d3, rfl, hf3, hcome⟩
          have hbx3 := hf3.blk HR.out.2 (fun f => f)
          have p0 := blk_cell hbx3 0
          have p1 := blk_cell hbx3 1
          have p2 := blk_cell hbx3 2
          have z0 := blk_frozen hbx3 0
          have z1 := blk_frozen hbx3 1
          have z2 := blk_frozen hbx3 2
          simp at p0 p1 p2
          have HC := Lib.hid hcome
          clear hf3 hcome hbx3
          go_wp2_with fail
          go_roundw
          case rel => exact ⟨k + 1, by go_num, ⟨by omega, s1, HS.out.1.symm, (HC.out.laid w3 (Fr.refl _ _)).mono fun i f => f.elim⟩⟩
          case measure => simp [intOf]; omega
    · obtain rfl : k = ls.length := by omega
      rw [List.take_length] at hse
      have hbw : wr.heap[w.heap.size]? = some (.cells #[.slice none 0 0, .slice none 0 0, .int .i64 0] 55 (0, 0)) := HMid.out.fr.blk H.out.2.2.2.2 (fun f => f)
      have r0 := blk_cell hbw 0
      have r1 := blk_cell hbw 1
      have r2 := blk_cell hbw 2
      have z0 := blk_frozen hbw 0
      have z1 := blk_frozen hbw 1
      have z2 := blk_frozen hbw 2
      simp at r0 r1 r2
      have hb4 := blk_set (blk_set (blk_set hbw 0 (.slice A s.kc.length c)) 1 (.slice B s.kc.length d)) 2 (.int .i64 s.now)
      have d0 := blk_cell hb4 0
      have d1 := blk_cell hb4 1
      have d2 := blk_cell hb4 2
      simp at d0 d1 d2
      have hfin := mid_stored HMid.out H.out.2.2.2.1 H.out.2.2.1 hblk
      have HE := Lib.hid (And.intro hfin (And.intro d0 (And.intro d1 (And.intro d2 hse))))
      clear hfin d0 d1 d2 hb4 hbw hblk hse
      go_wp2_with fail
      go_region
      go_wp2
      obtain ⟨⟨hst, hfr⟩, d0, d1, d2, hse⟩ := HE.out
      subst hse
      refine bodyPost_ret (v := .tuple #[.pointer (some ⟨sb, 0, none⟩), .agg #[.slice A (stAll Sto.empty ls).kc.length c, .slice B (stAll Sto.empty ls).kc.length d, .int .i64 (stAll Sto.empty ls).now]]) (by simp [results, Try.results22, go_sem, d0, d1, d2]) rfl ⟨sb, A, c, B, d, rfl, ?_, hfr.drew⟩
      exact ⟨fun w4 b f4 hb hblk => hst.made w4 b ⟨f4.os, f4.tape, f4.output, f4.size, f4.block⟩ hb hblk⟩
end Go.Proofs.Ytkcppngopdiljaa
