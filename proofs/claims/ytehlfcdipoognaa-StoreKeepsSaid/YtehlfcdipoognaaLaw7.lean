/- Laws of layer 13 (store): StoreKeeps. -/
import Derived.Test.YtehlfcdipoognaaLaw6
import Derived.Test.YtehlfcdipoognaaPlain13
set_option linter.unusedVariables false
set_option linter.unusedSimpArgs false
namespace Go.Proofs.Ytehlfcdipoognaa
open Go.RowKit

theorem Mid.guard {w wr : World} {sb bx : Nat} {s t : Sto} (h : Mid w wr sb bx s t No) : ∃ (R : Nat → Prop) (A : Option Addr) (c : Nat) (B : Option Addr) (d : Nat), wr.heap[bx]? = some (.cells #[.slice A t.kc.length c, .slice B t.kc.length d, .int .i64 t.now] 29 (0, 0)) ∧
    StoVal wr R (.agg #[.slice A t.kc.length c, .slice B t.kc.length d, .int .i64 t.now]) t ∧ Mid w wr sb bx s t R ∧ ∀ i, R i → i < wr.heap.size ∧ i ≠ bx := by
  obtain ⟨⟨FS, FM, h1, h2, h3, h4⟩, h5, h6⟩ := h
  obtain ⟨A, c, B, d, h8, h7⟩ := h2.box
  exact ⟨FM, A, c, B, d, h8, h7, ⟨⟨FS, FM, h1, h2, fun i hi => by have := h3 i hi; exact ⟨this.1, this.2.1, this.2.2.1, this.2.1, this.2.2.2.2⟩, h4⟩, h5, h6⟩, fun i hi => ⟨(h4 i hi).1.2, (h4 i hi).1.1⟩⟩

/-- What stands at the loop's head: the store, the document's, and what was. -/
structure KInv (w2 wr : World) (sb bx by_ : Nat) (s0 : Sto) (R : Nat → Prop) (more : List (List Actn)) (A : Option Addr) (c : Nat) (B : Option Addr) (d : Nat) (k : Nat) : Prop where
  le : k ≤ more.length
  mid : ∃ s, s = stAll s0 (more.take k) ∧ Mid w2 wr sb bx s s R
  was : StoVal wr R (.agg #[.slice A s0.kc.length c, .slice B s0.kc.length d, .int .i64 s0.now]) s0
  box : wr.heap[by_]? = some (.cells #[.slice A s0.kc.length c, .slice B s0.kc.length d, .int .i64 s0.now] 29 (0, 0))
  lt : ∀ i, R i → i < wr.heap.size ∧ i ≠ bx
  own : R by_

set_option maxHeartbeats 4000000 in
set_option maxRecDepth 100000 in
theorem law_keeps_ok {w : World} {F G : Nat → Prop} {D E : Option Addr} {e1 e2 : Nat} {ls more : List (List Actn)} (h : Rd (Ty.slice tAct) w F D ls) (hm : Rd (Ty.slice tAct) w G E more) (hlb : lotsB ls = true) (hmb : lotsB more = true) :
    Calls Try.prog 4 #[.slice D ls.length e1, .slice E more.length e2] w fun e w' => e = .returned (.bool true) ∧ Fr No w w' := by
  have hlots := fun w' (f : Fr No w w') => law_lots (c := e1) (h.fr0 f)
  have hlots2 := fun w' (f : Fr No w w') => law_lots (c := e2) (hm.fr0 f)
  rw [hlb] at hlots
  rw [hmb] at hlots2
  obtain ⟨hm20, hm10⟩ := lotsB_all hmb
  have hmI : (more.length : Int) ≤ 20 := by omega
  have hst := fun w' (f : Fr No w w') => law_stored (e := e1) (h.fr0 f) hlb
  have hfine : (stAll Sto.empty ls).Fine 1280 := (stAll_fine empty_fine ls).mono (by have := (lotsB_all hlb).1; omega)
  obtain ⟨s0, hs0⟩ : ∃ s, stAll Sto.empty ls = s := ⟨_, rfl⟩
  simp only [hs0] at hst hfine
  have H := Lib.hid (And.intro hlots (And.intro hlots2 (And.intro hst (And.intro hfine (And.intro (hm.mono fun i hi hl => (⟨hi, hl⟩ : G i ∧ i < w.heap.size)) hm10)))))
  obtain ⟨hs00, hs01⟩ := nowi hfine (by omega)
  clear hlots hlots2 hst hfine hlb hmb hs0 h hm hm10
  go_enter Try.func4, Try.ntmps4
  go_wp2_with fail
  refine (law_one w).mono ?_
  rintro e1 w1 ⟨rfl, hf1⟩
  have HF1 := Lib.hid hf1
  clear hf1
  go_wp2_with fail
  refine (H.out.1 _ HF1.out).mono ?_
  rintro e2 w2 ⟨rfl, hf2⟩
  have HF2 := Lib.hid (HF1.out.trans (hf2.mono fun _ _ f => f.elim))
  clear hf2 HF1
  go_wp2_with fail
  refine (H.out.2.1 _ HF2.out).mono ?_
  rintro e2 w2b ⟨rfl, hf2⟩
  have HF2b := Lib.hid (HF2.out.trans (hf2.mono fun _ _ f => f.elim))
  clear hf2 HF2
  go_wp2_with fail
  refine (H.out.2.2.1 _ HF2b.out).mono ?_
  rintro e3 w3 ⟨sb, A, c, B, d, rfl, hsd, hf3⟩
  obtain ⟨W1, hW1⟩ : ∃ W, W = w3.alloc (.cells #[.slice A s0.kc.length c, .slice B s0.kc.length d, .int .i64 s0.now] 29) := ⟨_, rfl⟩
  have hfW1 : Fr No w3 W1 := by rw [hW1]; exact (Fr.refl No w3).alloc _
  have hsW1 : W1.heap.size = w3.heap.size + 1 := by rw [hW1]; simp
  have hbW1 : W1.heap[w3.heap.size]? = some (.cells #[.slice A s0.kc.length c, .slice B s0.kc.length d, .int .i64 s0.now] 29 (0, 0)) := by rw [hW1]; exact heap_alloc_new w3 _
  obtain ⟨R, A0, c0, B0, d0, hb0, hwas, hM, hRl⟩ := (hsd.made W1 w3.heap.size hfW1 (Nat.le_refl _) hbW1).guard
  rw [hbW1] at hb0
  injection hb0 with hb0
  simp only [Obj.cells.injEq, Array.mk.injEq, List.cons.injEq, Value.slice.injEq] at hb0
  obtain ⟨⟨⟨rfl, _, rfl⟩, ⟨rfl, _, rfl⟩, _⟩, _⟩ := hb0
  obtain ⟨W, hW⟩ : ∃ W, W = W1.alloc (.cells #[.slice A s0.kc.length c, .slice B s0.kc.length d, .int .i64 s0.now] 29) := ⟨_, rfl⟩
  have hfW : Fr No W1 W := by rw [hW]; exact (Fr.refl No W1).alloc _
  have hsW : W.heap.size = w3.heap.size + 2 := by rw [hW]; simp [hsW1]
  have hbW : W.heap[w3.heap.size + 1]? = some (.cells #[.slice A s0.kc.length c, .slice B s0.kc.length d, .int .i64 s0.now] 29 (0, 0)) := by rw [hW, ← hsW1]; exact heap_alloc_new W1 _
  have hM2 := (hM.add hfW).mono (R' := fun i => R i ∨ i = w3.heap.size + 1) fun i hi => hi.imp id fun e => by omega
  have HI0 : Hid (KInv w2b W sb w3.heap.size (w3.heap.size + 1) s0 (fun i => R i ∨ i = w3.heap.size + 1) more A c B d 0) := ⟨Nat.zero_le _, ⟨_, rfl, hM2⟩, (hwas.fr0 hfW).mono fun i hi _ => .inl hi, hbW, fun i hi => by
    rcases hi with hi | hi
    · have := hRl i hi; exact ⟨by omega, this.2⟩
    · exact ⟨by omega, by omega⟩, .inr rfl⟩
  rw [hW1] at hW
  clear hfW1 hsW1 hbW1 hwas hM hRl hfW hsW hbW hM2 hW1 hsd hf3
  generalize (fun i => R i ∨ i = w3.heap.size + 1) = R0 at HI0
  go_wp2_with fail
  rw [← hW]
  clear hW
  go_loopw [8] (fun i wr => ∃ (k : Nat), i = .int .i64 k ∧ Hid (KInv w2b wr sb w3.heap.size (w3.heap.size + 1) s0 R0 more A c B d k)) (fun i _ => more.length - (intOf i).toNat)
  case atStart => exact ⟨0, rfl, HI0⟩
  case round =>
    obtain ⟨k, rfl, I⟩ := hrel
    have hq0 : (0 : Int) ≤ (k : Int) := Int.natCast_nonneg _
    obtain ⟨s, hse, hMid⟩ := I.out.mid
    have hkl := I.out.le
    have hfine : s.Fine 2560 := by rw [hse]; exact (stAll_fine H.out.2.2.2.1 (more.take k)).mono (by have := List.length_take_le' k more; omega)
    obtain ⟨hn0, hn1⟩ := nowi hfine (by omega)
    have hwr : Fr No w wr := HF2b.out.trans (hMid.fr.mono fun _ _ f => f.elim)
    have HMid := Lib.hid hMid
    obtain ⟨A9, c9, B9, d9, hblk, _⟩ := hMid.blk
    have a0 := blk_cell hblk 0
    have a1 := blk_cell hblk 1
    have a2 := blk_cell hblk 2
    simp at a0 a1 a2
    clear hMid
    by_cases hlt : k < more.length
    · have hq1 : (k : Int) < (more.length : Int) := by omega
      obtain ⟨ad, A', c', rfl, x0, hc', hr'⟩ := acts_at (H.out.2.2.2.2.1.fr0 hwr) hlt
      have hstep : stAll s0 (more.take (k + 1)) = stStep s more[k] := by rw [List.take_succ_eq_append_getElem hlt, stAll_snoc, ← hse]
      have h10 := H.out.2.2.2.2.2 _ (List.getElem_mem hlt)
      obtain ⟨a, ha⟩ : ∃ a, more[k] = a := ⟨_, rfl⟩
      rw [ha] at x0 hc' hr' hstep h10
      have hin : (a.length : Int) ≤ 10 := by omega
      by_cases hz : a.length = 0
      · have hst : stStep s a = s := by unfold stStep; rw [if_pos hz]
        have HS := Lib.hid (And.intro (hstep.trans hst) (And.intro hblk hfine))
        have hz' : (a.length : Int) = 0 := by omega
        clear hstep hst ha hc' hr' hse hblk hfine hz
        generalize a.length = n at *
        obtain rfl : n = 0 := by omega
        clear hz' hin
        go_wp2
        go_roundw
        case rel => exact ⟨k + 1, by go_num, ⟨by omega, ⟨s, HS.out.1.symm, HMid.out⟩, I.out.was, I.out.box, I.out.lt, I.out.own⟩⟩
        case measure => simp [intOf]; omega
      · have hst : stStep s a = (s.apply (s.now + 1) (batchW a)).1 := by unfold stStep; rw [if_neg hz]
        have hcode := apply_batch hfine hz (by omega)
        have hz' : ((a.length : Int) == 0) = false := by rw [beq_eq_false_iff_ne]; omega
        have hwb := batchW_len a
        have hbk : ∀ x ∈ batchW a, x.key.size ≤ 9223372036854775807 := fun x hx => by have := (batchW_mem hx).1; omega
        have hbat := fun w' (f : Fr No wr w') => ref_batch (e := c') (s.now + 1) (hr'.fr0 f) (by omega)
        rw [hst] at hstep
        obtain ⟨s1, hs1⟩ : ∃ s1, (s.apply (s.now + 1) (batchW a)).1 = s1 := ⟨_, rfl⟩
        rw [hs1] at hstep
        have HS := Lib.hid (And.intro hstep (And.intro hcode (And.intro hbk (And.intro hbat (And.intro hs1 hfine)))))
        have hwbI : (batchW a).length ≤ 10 := by omega
        have hwrap : IntKind.i64.wrap (s.now + 1) = s.now + 1 := IntWalk.i64_in _ (by omega)
        clear hstep hst ha hc' hr' hse hblk hcode hbk hbat hs1 hfine hwb
        go_wp2_with fail
        go_cut [9] (fun s7 wx => ∃ b : Nat, s7 = .pointer (some ⟨b, 0, none⟩) ∧ Hid (BatBox wr wx b (s.now + 1) (batchW a)))
        case first =>
          go_region_held3 (fun w' => w'.cell? ⟨w3.heap.size, 2, none⟩ = some (.int .i64 s.now) ∧ w'.cell? (ad.add k) = some (.slice A' a.length c'))
            (first
              | exact ⟨a2, x0⟩
              | exact ⟨cell_alloc a2 _, cell_alloc x0 _⟩
              | exact ⟨q0, q1⟩
              | exact ⟨cell_set2 q0 (World.block_lt_of_cell? wr _ a2) _ _, cell_set2 q1 (World.block_lt_of_cell? wr _ x0) _ _⟩
              | exact ⟨cell_alloc q0 _, cell_alloc q1 _⟩)
            (first
              | (go_at_call 16; refine (HS.out.2.2.2.1 _ (by repeat (first | exact Fr.refl _ _ | apply Fr.alloc | apply Fr.drew | apply Fr.drewN))).mono ?_; rintro e6 w6 ⟨A6, c6, rfl, hf6, hc6, hr6⟩
                 have hg6 : Fr No wr w6 := Fr.trans (by repeat (first | exact Fr.refl _ _ | apply Fr.alloc | apply Fr.drew | apply Fr.drewN)) (hf6.mono fun _ _ f => f.elim)
                 have q0 := hg6.cell a2 (fun f => f)
                 have q1 := hg6.cell x0 (fun f => f)
                 first
                   | (have bN : w6.heap[wr.heap.size]? = some (.cells #[.int .i64 0, .slice none 0 0] 41 (0, 0)) := hf6.blk (heap_alloc_new _ _) (fun f => f)
                      have m0 := blk_cell bN 0
                      have m1 := blk_cell bN 1
                      have y0 := blk_frozen bN 0
                      have y1 := blk_frozen bN 1
                      simp at m0 m1)
                   | skip
                 have H6 := Lib.hid (And.intro hf6 (And.intro hc6 hr6))
                 clear hf6 hc6 hr6 hg6))
          all_goals go_wp2_with fail
          all_goals go_meet
          all_goals first
            | exact ⟨_, rfl, bat_behind (by repeat (first | exact Fr.refl _ _ | apply Fr.alloc | apply Fr.drew | apply Fr.drewN)) H6.out.1 H6.out.2.1 H6.out.2.2⟩
            | (refine ⟨_, rfl, bat_before (w0 := wr.drew.alloc (.cells #[.int .i64 0, .slice none 0 0] 41)) ?_ ?_ ?_ H6.out.1 H6.out.2.1 H6.out.2.2⟩
               · repeat (first | exact Fr.refl _ _ | apply Fr.alloc | apply Fr.drew | apply Fr.drewN)
               · simp
               · exact heap_alloc_new wr _)
        case rest =>
          obtain ⟨b, rfl, HB⟩ := hcut
          obtain ⟨A8, c8, hb8, hc8, hr8⟩ := HB.out.box
          have hRb : wr.heap.size ≤ b ∧ b < wc.heap.size := ⟨HB.out.lt, blk_lt hb8⟩
          have hr8' := hr8.mono (G := fun i => R0 i ∨ (wr.heap.size ≤ i ∧ i < wc.heap.size)) fun i hi hl => .inr ⟨hi.1, hl⟩
          have hwc := HB.out.fr.size
          have hap := (HMid.out.add HB.out.fr |>.mono (R' := fun i => R0 i ∨ (wr.heap.size ≤ i ∧ i < wc.heap.size)) fun i hi => hi.imp id (fun h => h.1)).apply (c' := c8) (s.now + 1) (fun i hi => hi.elim (fun h => by have := (I.out.lt i h).1; omega) (fun h => h.2)) HS.out.2.2.2.2.2.small (by omega) hr8' (by omega) HS.out.2.2.1
          rw [HS.out.2.1, HS.out.2.2.2.2.1] at hap
          have k0 := blk_cell hb8 0
          have k1 := blk_cell hb8 1
          simp at k0 k1
          have HA := Lib.hid (And.intro hap (And.intro hb8 (And.intro hr8' hRb)))
          clear hap hb8 hc8 hr8 hr8' hRb
          go_wp2_with fail
          refine HA.out.1.mono ?_
          rintro e2 w2 ⟨rfl, hm2, S, hfS, hRS⟩
          have hb2 := hfS.blk HA.out.2.1 (hRS b (.inr HA.out.2.2.2))
          obtain ⟨A2, c2, B2, d2, hbx, href⟩ := hm2.ref (c' := c8) (s.now + 1) HS.out.2.2.2.2.2 (by omega) (HA.out.2.2.1.fr hfS fun i hi => hRS i hi) (by omega) HS.out.2.2.1
          rw [HS.out.2.1, HS.out.2.2.2.2.1] at href
          have j0 := blk_cell hb2 0
          have j1 := blk_cell hb2 1
          have l0 := blk_cell hbx 0
          have l1 := blk_cell hbx 1
          have l2 := blk_cell hbx 2
          simp at j0 j1 l0 l1 l2
          have hwas2 := (I.out.was.fr0 HB.out.fr).fr hfS fun i hi => hRS i (.inl hi)
          have hbox2 := hfS.blk (HB.out.fr.blk I.out.box (fun f => f)) (hRS _ (.inl I.out.own))
          have HR := Lib.hid (And.intro href (And.intro hbx (And.intro hwas2 (And.intro hbox2 (And.intro hfS.size hwc)))))
          clear hwas2 hbox2
          clear href hbx hb2 hm2 hfS hRS a0 a1 a2 x0
          go_wp2_with fail
          refine HR.out.1.mono ?_
          rintro e3 w4 ⟨A3, c3, B3, d3, rfl, hf3, hcome⟩
          have hbx3 := hf3.blk HR.out.2.1 (fun f => f)
          have p0 := blk_cell hbx3 0
          have p1 := blk_cell hbx3 1
          have p2 := blk_cell hbx3 2
          have z0 := blk_frozen hbx3 0
          have z1 := blk_frozen hbx3 1
          have z2 := blk_frozen hbx3 2
          simp at p0 p1 p2
          have HC := Lib.hid (And.intro hcome (And.intro (HR.out.2.2.1.fr0 hf3) (And.intro (hf3.blk HR.out.2.2.2.1 (fun f => f)) (show wr.heap.size ≤ w4.heap.size by have := hf3.size; have := HR.out.2.2.2.2.1; have := HR.out.2.2.2.2.2; omega))))
          clear hf3 hcome hbx3
          go_wp2_with fail
          go_roundw
          case rel =>
            have hne : ¬ R0 w3.heap.size := fun h => (I.out.lt _ h).2 rfl
            have hfr : Fr (fun i => i = w3.heap.size) w4 (((w4.setCell ⟨w3.heap.size, 0, none⟩ (.slice A3 s1.kc.length c3)).setCell ⟨w3.heap.size, 1, none⟩ (.slice B3 s1.kc.length d3)).setCell ⟨w3.heap.size, 2, none⟩ (.int .i64 s1.now)) :=
              (((Fr.refl (fun i => i = w3.heap.size) w4).set ⟨w3.heap.size, 0, none⟩ (.inl rfl) _).set ⟨w3.heap.size, 1, none⟩ (.inl rfl) _).set ⟨w3.heap.size, 2, none⟩ (.inl rfl) _
            refine ⟨k + 1, by go_num, ⟨by omega, ⟨s1, HS.out.1.symm, (HC.out.1.laid w4 (Fr.refl _ _)).mono fun i h => .inl h⟩, HC.out.2.1.fr hfr (fun i hi e => by subst e; exact hne hi), hfr.blk HC.out.2.2.1 (by omega), fun i hi => ?_, I.out.own⟩⟩
            have h7 := I.out.lt i hi
            have h8 := hfr.size
            have h9 := HC.out.2.2.2
            exact ⟨by omega, h7.2⟩
          case measure => simp [intOf]; omega
    · obtain rfl : k = more.length := by omega
      rw [List.take_length] at hse
      obtain ⟨FS, hS⟩ := HMid.out.store
      have hscan := fun w' (f : Fr No wr w') a (ha : a ≤ s0.now) => store_scan (hS.fr0 f) hfine.small (by omega) a ⟨#[]⟩ ⟨#[]⟩ 1000
      have hrscan := fun w' (f : Fr No wr w') a => ref_scan a ⟨#[]⟩ ⟨#[]⟩ 1000 (I.out.was.fr0 f) H.out.2.2.2.1 (by omega)
      have hnow := fun w' (f : Fr No wr w') => store_now (hS.fr0 f)
      have heq : ∀ a, a ≤ s0.now → s.scan a ⟨#[]⟩ ⟨#[]⟩ 1000 = s0.scan a ⟨#[]⟩ ⟨#[]⟩ 1000 := fun a ha => by rw [hse]; exact stAll_scan H.out.2.2.2.1 more ha _ _ _
      have hks := fun a => scan_ksz H.out.2.2.2.1.small a ⟨#[]⟩ ⟨#[]⟩ 1000
      have b0 := blk_cell I.out.box 0
      have b1 := blk_cell I.out.box 1
      have b2 := blk_cell I.out.box 2
      simp at b0 b1 b2
      have HS := Lib.hid (And.intro hscan (And.intro hrscan (And.intro heq (And.intro hks (And.intro hwr hnow)))))
      clear hscan hrscan heq hks hwr hnow hS hse hfine hblk
      obtain ⟨wo, hwo⟩ : ∃ wo, wo = wr := ⟨_, rfl⟩
      subst hwo
      go_wp2_with fail
      go_loopw [10] (fun v wr => ∃ a : Int, v = .int .i64 a ∧ 0 ≤ a ∧ a ≤ s0.now + 1 ∧ Hid (Fr No wo wr)) (fun v _ => (s0.now + 1 - intOf v).toNat)
      case atStart => exact ⟨0, rfl, by omega, by omega, Fr.refl _ _⟩
      case round =>
        obtain ⟨a, rfl, ha0, ha1, hf⟩ := hrel
        have c0 := hf.out.cell b0 (fun f => f)
        have c1 := hf.out.cell b1 (fun f => f)
        have c2 := hf.out.cell b2 (fun f => f)
        have hwa : IntKind.i64.wrap (a + 1) = a + 1 := IntWalk.i64_in _ (by omega)
        by_cases hle : a ≤ s0.now
        · have gS := hf.out
          go_wp2_with fail
          go_region_held3 (fun w' => w'.cell? ⟨w3.heap.size + 1, 0, none⟩ = some (.slice A s0.kc.length c) ∧ w'.cell? ⟨w3.heap.size + 1, 1, none⟩ = some (.slice B s0.kc.length d) ∧ w'.cell? ⟨w3.heap.size + 1, 2, none⟩ = some (.int .i64 s0.now))
            (first
              | exact ⟨c0, c1, c2⟩
              | exact ⟨q0, q1, q2⟩)
            (first
              | (go_at_call 15; refine (HS.out.2.1 _ (by repeat (first | assumption | exact Fr.refl _ _ | apply Fr.drew | apply Fr.drewN)) a).mono ?_; rintro e5 w5 ⟨A5, c5, rfl, hc5, hr5, hf5⟩
                 have g5 : Fr No wo w5 := Fr.trans (by repeat (first | assumption | exact Fr.refl _ _ | apply Fr.drew | apply Fr.drewN)) (hf5.mono fun _ _ f => f.elim)
                 have hx2 := Lib.hid (And.intro ((hx1.out.fr0 (by repeat (first | assumption | exact Fr.refl _ _ | apply Fr.drew | apply Fr.drewN))).fr0 hf5) hr5)
                 have q0 := g5.cell b0 (fun f => f)
                 have q1 := g5.cell b1 (fun f => f)
                 have q2 := g5.cell b2 (fun f => f)
                 clear hf5 hr5 hc5)
              | (go_at_call 14; refine (items_same hx2.out.1 hx2.out.2 (HS.out.2.2.2.1 a) (by repeat (first | assumption | exact Fr.refl _ _ | apply Fr.drew | apply Fr.drewN))).mono ?_; rintro e6 w6 ⟨rfl, hf6⟩
                 have g6 : Fr No wo w6 := Fr.trans (by repeat (first | assumption | exact Fr.refl _ _ | apply Fr.drew | apply Fr.drewN)) (hf6.mono fun _ _ f => f.elim)
                 have q0 := g6.cell b0 (fun f => f)
                 have q1 := g6.cell b1 (fun f => f)
                 have q2 := g6.cell b2 (fun f => f)
                 clear hf6)
              | (go_at_call 13; refine (HS.out.1 _ (by repeat (first | assumption | exact Fr.refl _ _ | apply Fr.drew | apply Fr.drewN)) a hle).mono ?_; rw [HS.out.2.2.1 a hle]; rintro e7 wS ⟨A7, c7, rfl, ho7, hf7⟩
                 have gS : Fr No wo wS := Fr.trans (by repeat (first | assumption | exact Fr.refl _ _ | apply Fr.drew | apply Fr.drewN)) (hf7.mono fun _ _ f => f.elim)
                 have hx1 := Lib.hid ho7.rd.2.2
                 have q0 := gS.cell b0 (fun f => f)
                 have q1 := gS.cell b1 (fun f => f)
                 have q2 := gS.cell b2 (fun f => f)
                 clear hf7 ho7))
          all_goals
            go_wp2
            go_roundw
            case rel => exact ⟨a + 1, by go_num, by omega, by omega, by show Fr No wo _; exact (by repeat (first | assumption | exact Fr.refl _ _ | apply Fr.drew | apply Fr.drewN))⟩
            case measure => simp [intOf]; omega
        · have hfo := hf.out
          have p2 := hfo.cell a2 (fun f => f)
          have hnw : (s.now == s.now) = true := by simp
          go_wp2_with fail
          go_region_held3 (fun w' => w'.cell? ⟨w3.heap.size, 2, none⟩ = some (.int .i64 s.now))
            (exact p2)
            (first | (go_at_call 19; refine (HS.out.2.2.2.2.2 _ (by repeat (first | assumption | exact Fr.refl _ _ | apply Fr.drew | apply Fr.drewN))).mono ?_; rintro e7 w7 ⟨rfl, rfl⟩))
          all_goals
            go_wp2
            go_ret
            exact ⟨rfl, HS.out.2.2.2.2.1.trans (Fr.mono (F := No) (by repeat (first | assumption | exact Fr.refl _ _ | apply Fr.drew | apply Fr.drewN)) fun _ _ f => f.elim)⟩

set_option maxHeartbeats 2000000 in
set_option maxRecDepth 100000 in
theorem law_keeps {w : World} {F G : Nat → Prop} {D E : Option Addr} {e1 e2 : Nat} {ls more : List (List Actn)} (h : Rd (Ty.slice tAct) w F D ls) (hm : Rd (Ty.slice tAct) w G E more) :
    Calls Try.prog 4 #[.slice D ls.length e1, .slice E more.length e2] w fun e w' => e = .returned (.bool true) ∧ Fr No w w' := by
  have hlots := fun w' (f : Fr No w w') => law_lots (c := e1) (h.fr0 f)
  have hlots2 := fun w' (f : Fr No w w') => law_lots (c := e2) (hm.fr0 f)
  have hone := Lib.hid law_one
  cases hlb : lotsB ls with
  | false =>
    · rw [hlb] at hlots
      have H := Lib.hid hlots
      clear hlots hlots2 hlb h hm
      go_enter Try.func4, Try.ntmps4
      go_wp2_with fail
      refine (hone.out w).mono ?_
      rintro e1 w1 ⟨rfl, hf1⟩
      have HF1 := Lib.hid (hf1)
      clear hf1
      go_wp2_with fail
      refine (H.out _ HF1.out).mono ?_
      rintro e2 w2 ⟨rfl, hf2⟩
      have HF2 := Lib.hid (HF1.out.trans (hf2.mono fun _ _ f => f.elim))
      clear hf2
      go_wp2_with fail
      refine (hone.out w2).mono ?_
      rintro e3 w3 ⟨rfl, hf3⟩
      have HF3 := Lib.hid (HF2.out.trans (hf3.mono fun _ _ f => f.elim))
      clear hf3
      go_wp2_with fail
      go_ret
      exact ⟨rfl, HF3.out⟩
  | true =>
    cases hmb : lotsB more with
    | true => exact law_keeps_ok h hm hlb hmb
    | false =>
      rw [hlb] at hlots
      rw [hmb] at hlots2
      have H := Lib.hid hlots
      have H2 := Lib.hid hlots2
      clear hlots hlots2 hlb hmb h hm
      go_enter Try.func4, Try.ntmps4
      go_wp2_with fail
      refine (hone.out w).mono ?_
      rintro e1 w1 ⟨rfl, hf1⟩
      have HF1 := Lib.hid (hf1)
      clear hf1
      go_wp2_with fail
      refine (H.out _ HF1.out).mono ?_
      rintro e2 w2 ⟨rfl, hf2⟩
      have HF2 := Lib.hid (HF1.out.trans (hf2.mono fun _ _ f => f.elim))
      clear hf2
      go_wp2_with fail
      refine (H2.out _ HF2.out).mono ?_
      rintro e3 w3 ⟨rfl, hf3⟩
      have HF3 := Lib.hid (HF2.out.trans (hf3.mono fun _ _ f => f.elim))
      clear hf3
      go_wp2_with fail
      refine (hone.out w3).mono ?_
      rintro e4 w4 ⟨rfl, hf4⟩
      have HF4 := Lib.hid (HF3.out.trans (hf4.mono fun _ _ f => f.elim))
      clear hf4
      go_wp2_with fail
      go_ret
      exact ⟨rfl, HF4.out⟩
end Go.Proofs.Ytehlfcdipoognaa
