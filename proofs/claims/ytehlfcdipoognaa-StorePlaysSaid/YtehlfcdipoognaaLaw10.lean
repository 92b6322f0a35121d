/- Laws of layer 13 (store): StorePlays. -/
import Derived.Test.YtehlfcdipoognaaLaw9
import Derived.Deep.RegionLaw
set_option linter.unusedVariables false
set_option linter.unusedSimpArgs false
namespace Go.Proofs.Ytehlfcdipoognaa
open Go.RowKit

/-- What stands at the loop's head: some store, and the document's, alike. -/
structure PlInv (w2 wr : World) (sb bx : Nat) (k n : Nat) : Prop where
  le : k ≤ n
  mid : ∃ s, s.Fine (64 * k) ∧ Mid w2 wr sb bx s s No

/-- A box, whatever store lies there, at a store of one's own. -/
theorem Mid.box_eq {w wr : World} {sb bx : Nat} {s t : Sto} {R : Nat → Prop} {A B : Option Addr} {c d : Nat} (h : Mid w wr sb bx s t R) (hb : wr.heap[bx]? = some (.cells #[.slice A t.kc.length c, .slice B t.kc.length d, .int .i64 t.now] 29 (0, 0))) :
    ∃ FM FS, StoVal wr FM (.agg #[.slice A t.kc.length c, .slice B t.kc.length d, .int .i64 t.now]) t ∧ StoreAt wr FS sb s := by
  obtain ⟨A0, c0, B0, d0, hb0, FM, hV⟩ := h.blk
  obtain ⟨FS, hS⟩ := h.store
  rw [hb] at hb0
  injection hb0 with hb0
  simp only [Obj.cells.injEq, Array.mk.injEq, List.cons.injEq, Value.slice.injEq] at hb0
  obtain ⟨⟨⟨rfl, _, rfl⟩, ⟨rfl, _, rfl⟩, _⟩, _⟩ := hb0
  exact ⟨FM, FS, hV, hS⟩

theorem Mid.reftrim_at {w wr : World} {sb bx m : Nat} {s t : Sto} {R : Nat → Prop} {A B : Option Addr} {c d : Nat} (h : Mid w wr sb bx s t R) (hb : wr.heap[bx]? = some (.cells #[.slice A t.kc.length c, .slice B t.kc.length d, .int .i64 t.now] 29 (0, 0))) (ht : t.Fine m) (hm : m ≤ 100000000) (a : Int) :
    Calls Try.prog 25 #[.agg #[.slice A t.kc.length c, .slice B t.kc.length d, .int .i64 t.now], .int .i64 a] wr fun e w3 =>
        ∃ A1 c1 B1 d1, e = .returned (.tuple #[.agg #[.slice A1 (t.trim a).kc.length c1, .slice B1 (t.trim a).kc.length d1, .int .i64 (t.trim a).now], .int .i64 (t.cut a)]) ∧ Fr No wr w3 ∧ Come w w3 sb bx s (t.trim a) R A1 c1 B1 d1 := by
  obtain ⟨⟨FS, FM, h1, h2, h3, h4⟩, h5, h6⟩ := h
  have hV : StoVal wr FM (.agg #[.slice A t.kc.length c, .slice B t.kc.length d, .int .i64 t.now]) t := by
    obtain ⟨A0, c0, B0, d0, hb0, h7⟩ := h2.box
    rw [hb] at hb0
    injection hb0 with hb0
    simp only [Obj.cells.injEq, Array.mk.injEq, List.cons.injEq, Value.slice.injEq] at hb0
    obtain ⟨⟨⟨rfl, _, rfl⟩, ⟨rfl, _, rfl⟩, _⟩, _⟩ := hb0
    exact h7
  refine (ref_trim a hV ht hm).mono ?_
  rintro e w3 ⟨u, rfl, hv, hf⟩
  obtain ⟨A1, c1, B1, d1, rfl, hc⟩ := Mid.come (R := R) ⟨FS, h1, h2, h3, h4⟩ h5 h6 hf hv
  exact ⟨A1, c1, B1, d1, rfl, hf, hc⟩

set_option maxHeartbeats 2000000 in
set_option maxRecDepth 100000 in
theorem law_plays_ok {w : World} {F G : Nat → Prop} {D E : Option Addr} {e1 e2 : Nat} {ls : List (List Actn)} {ts : Bs} (h : Rd (Ty.slice tAct) w F D ls) (ht : Rd Ty.u8 w G E ts) (hlb : lotsB ls = true) :
    Calls Try.prog 7 #[.slice D ls.length e1, .slice E ts.length e2] w fun e w' => e = .returned (.bool true) ∧ Fr No w w' := by
  have hlots := fun w' (f : Fr No w w') => law_lots (c := e1) (h.fr0 f)
  rw [hlb] at hlots
  obtain ⟨hl20, hl10⟩ := lotsB_all hlb
  have hlI : (ls.length : Int) ≤ 20 := by omega
  have hti : (ts.length : Int) ≤ 9223372036854775807 := by have := ht.1; omega
  have H := Lib.hid (And.intro hlots (And.intro (h.mono fun i hi hl => (⟨hi, hl⟩ : F i ∧ i < w.heap.size)) (And.intro hl10 (ht.mono fun i hi hl => (⟨hi, hl⟩ : G i ∧ i < w.heap.size)))))
  clear hlots hlb h ht hl10
  go_enter Try.func7, Try.ntmps7
  go_wp2_with fail
  refine (law_one w).mono ?_
  rintro e1 w1 ⟨rfl, hf1⟩
  have HF1 := Lib.hid hf1
  clear hf1
  go_wp2_with fail
  refine (H.out.1 _ HF1.out).mono ?_
  rintro e2 w2 ⟨rfl, hf2⟩
  have HF2 := Lib.hid (HF1.out.trans (hf2.mono fun _ _ f => f.elim))
  clear hf2 HF1
  go_wp2_with fail
  refine (store_new w2).mono ?_
  rintro e3 w3 ⟨sb, rfl, hs1, hf1⟩
  obtain ⟨W, hW⟩ : ∃ W, W = w3.alloc (.cells #[.slice none 0 0, .slice none 0 0, .int .i64 0] 29) := ⟨_, rfl⟩
  have hfW : Fr No w3 W := by rw [hW]; exact (Fr.refl No w3).alloc _
  have hsW : W.heap.size = w3.heap.size + 1 := by rw [hW]; simp
  have hbW : W.heap[w3.heap.size]? = some (.cells #[.slice none 0 0, .slice none 0 0, .int .i64 0] 29 (0, 0)) := by rw [hW]; exact heap_alloc_new w3 _
  have hM : Mid w2 W sb w3.heap.size Sto.empty Sto.empty No := ⟨⟨fun i => w2.heap.size ≤ i ∧ i < w3.heap.size, fun _ => False, (hs1.mono fun i hi hl => ⟨hi, hl⟩).fr0 hfW, ⟨none, 0, none, 0, hbW, none, 0, none, 0, rfl, Nat.le_refl _, Nat.le_refl _, Rd.nil, Rd.nil⟩, fun i hi => ⟨hi.1, fun f => f, by have := hi.2; omega, fun f => f, by have := hi.2; omega⟩, fun i hi => hi.elim⟩, hf1.trans (hfW.mono fun _ _ f => f.elim), hf1.size⟩
  have HM := Lib.hid hM
  clear hs1 hf1 hfW hsW hbW hM
  go_wp2_with fail
  rw [← hW]
  clear hW
  go_loopw [7] (fun i wr => ∃ (k : Nat), i = .int .i64 k ∧ Hid (PlInv w2 wr sb w3.heap.size k ls.length)) (fun i _ => ls.length - (intOf i).toNat)
  case atStart => exact ⟨0, rfl, ⟨Nat.zero_le _, _, empty_fine, HM.out⟩⟩
  case round =>
    obtain ⟨k, rfl, I⟩ := hrel
    have hq0 : (0 : Int) ≤ (k : Int) := Int.natCast_nonneg _
    have hkl := I.out.le
    obtain ⟨s, hfine, hMid⟩ := I.out.mid
    have hfk := Lib.hid hfine
    have hfine : s.Fine 1280 := hfine.mono (by omega)
    obtain ⟨hn0, hn1⟩ := nowi hfine (by omega)
    have hwr : Fr No w wr := HF2.out.trans (hMid.fr.mono fun _ _ f => f.elim)
    have HMid := Lib.hid (And.intro hMid hwr)
    obtain ⟨A, c, B, d, hblk, _⟩ := hMid.blk
    have a0 := blk_cell hblk 0
    have a1 := blk_cell hblk 1
    have a2 := blk_cell hblk 2
    simp at a0 a1 a2
    have HI := I
    have hblt := blk_lt hblk
    clear hMid I
    by_cases hlt : k < ls.length
    · have hq1 : (k : Int) < (ls.length : Int) := by omega
      obtain ⟨ad, A', c', rfl, x0, hc', hr'⟩ := acts_at (H.out.2.1.fr0 hwr) hlt
      have h10 := H.out.2.2.1 _ (List.getElem_mem hlt)
      obtain ⟨a, ha⟩ : ∃ a, ls[k] = a := ⟨_, rfl⟩
      rw [ha] at x0 hc' hr' h10
      have hin : (a.length : Int) ≤ 10 := by omega
      by_cases hz : a.length = 0
      · have hz' : (a.length : Int) = 0 := by omega
        clear ha hc' hr' hblk hfine hz
        generalize a.length = n at *
        obtain rfl : n = 0 := by omega
        clear hz' hin
        go_wp2
        go_roundw
        case rel =>
          obtain ⟨s', hf', hM'⟩ := HI.out.mid
          exact ⟨k + 1, by go_num, ⟨by omega, s', hf'.mono (by omega), hM'⟩⟩
        case measure => simp [intOf]; omega
      · have hst : stStep s a = (s.apply (s.now + 1) (batchW a)).1 := by unfold stStep; rw [if_neg hz]
        have hcode := apply_batch hfine hz (by omega)
        have hz' : ((a.length : Int) == 0) = false := by rw [beq_eq_false_iff_ne]; omega
        have hwb := batchW_len a
        have hbk : ∀ x ∈ batchW a, x.key.size ≤ 9223372036854775807 := fun x hx => by have := (batchW_mem hx).1; omega
        have hbat := fun w' (f : Fr No wr w') => ref_batch (e := c') (s.now + 1) (hr'.fr0 f) (by omega)
        obtain ⟨s1, hs1⟩ : ∃ s1, (s.apply (s.now + 1) (batchW a)).1 = s1 := ⟨_, rfl⟩
        have HS := Lib.hid (And.intro hst (And.intro hcode (And.intro hbk (And.intro hbat (And.intro hs1 hfine)))))
        have hwbI : (batchW a).length ≤ 10 := by omega
        have hwrap : IntKind.i64.wrap (s.now + 1) = s.now + 1 := IntWalk.i64_in _ (by omega)
        clear hst ha hc' hr' hblk hcode hbk hbat hs1 hfine hwb
        go_wp2_with fail
        go_cut [8] (fun s7 wx => ∃ b : Nat, s7 = .pointer (some ⟨b, 0, none⟩) ∧ Hid (BatBox wr wx b (s.now + 1) (batchW a)))
        case first =>
          go_region_held3 (fun w' => w'.cell? ⟨w3.heap.size, 2, none⟩ = some (.int .i64 s.now) ∧ w'.cell? (ad.add k) = some (.slice A' a.length c'))
            (first
              | exact ⟨a2, x0⟩
              | exact ⟨cell_alloc a2 _, cell_alloc x0 _⟩
              | exact ⟨q0, q1⟩
              | exact ⟨cell_set2 q0 (World.block_lt_of_cell? wr _ a2) _ _, cell_set2 q1 (World.block_lt_of_cell? wr _ x0) _ _⟩
              | exact ⟨cell_alloc q0 _, cell_alloc q1 _⟩)
            (first
              | (go_at_call 16; refine (HS.out.2.2.2.1 _ (by repeat (first | exact Fr.refl _ _ | apply Fr.alloc | apply Fr.drew | apply Fr.drewN))).mono ?_; rintro e6 w6 ⟨A6, c6, rfl, hf6, hc6, hr6⟩
                 have hg6 : Fr No wr w6 := Fr.trans (by repeat (first | exact Fr.refl _ _ | apply Fr.alloc | apply Fr.drew | apply Fr.drewN)) (hf6.mono fun _ _ f => f.elim)
                 have q0 := hg6.cell a2 (fun f => f)
                 have q1 := hg6.cell x0 (fun f => f)
                 first
                   | (have bN : w6.heap[wr.heap.size]? = some (.cells #[.int .i64 0, .slice none 0 0] 41 (0, 0)) := hf6.blk (heap_alloc_new _ _) (fun f => f)
                      have m0 := blk_cell bN 0
                      have m1 := blk_cell bN 1
                      have y0 := blk_frozen bN 0
                      have y1 := blk_frozen bN 1
                      simp at m0 m1)
                   | skip
                 have H6 := Lib.hid (And.intro hf6 (And.intro hc6 hr6))
                 clear hf6 hc6 hr6 hg6))
          all_goals go_wp2_with fail
          all_goals go_meet
          all_goals first
            | exact ⟨_, rfl, bat_behind (by repeat (first | exact Fr.refl _ _ | apply Fr.alloc | apply Fr.drew | apply Fr.drewN)) H6.out.1 H6.out.2.1 H6.out.2.2⟩
            | (refine ⟨_, rfl, bat_before (w0 := wr.drew.alloc (.cells #[.int .i64 0, .slice none 0 0] 41)) ?_ ?_ ?_ H6.out.1 H6.out.2.1 H6.out.2.2⟩
               · repeat (first | exact Fr.refl _ _ | apply Fr.alloc | apply Fr.drew | apply Fr.drewN)
               · simp
               · exact heap_alloc_new wr _)
        case rest =>
          obtain ⟨b, rfl, HB⟩ := hcut
          obtain ⟨A8, c8, hb8, hc8, hr8⟩ := HB.out.box
          have hRb : wr.heap.size ≤ b ∧ b < wc.heap.size := ⟨HB.out.lt, blk_lt hb8⟩
          have hbne : w3.heap.size < b := by omega
          have hr8' := hr8.mono (G := fun i => wr.heap.size ≤ i ∧ i < wc.heap.size) fun i hi hl => ⟨hi.1, hl⟩
          have hMc := (HMid.out.1.add HB.out.fr).mono (R' := fun i => wr.heap.size ≤ i ∧ i < wc.heap.size) fun i hi => .inr hi.1
          obtain ⟨A2, c2, B2, d2, hbx, href⟩ := hMc.ref (c' := c8) (s.now + 1) HS.out.2.2.2.2.2 (by omega) hr8' (by omega) HS.out.2.2.1
          rw [HS.out.2.1, HS.out.2.2.2.2.1] at href
          have k0 := blk_cell hb8 0
          have k1 := blk_cell hb8 1
          have l0 := blk_cell hbx 0
          have l1 := blk_cell hbx 1
          have l2 := blk_cell hbx 2
          simp at k0 k1 l0 l1 l2
          have HA := Lib.hid (And.intro href (And.intro hb8 (And.intro hr8' (And.intro hRb (And.intro hbx hblt)))))
          clear href hb8 hc8 hr8 hr8' hRb hMc hbx hblt a0 a1 a2 x0
          go_wp2_with fail
          refine HA.out.1.mono ?_
          rintro e4 w4 ⟨A3, c3, B3, d3, rfl, hf4, hcome⟩
          have hb4 := hf4.blk HA.out.2.1 (fun f => f)
          have hx4 := hf4.blk HA.out.2.2.2.2.1 (fun f => f)
          have k0 := blk_cell hb4 0
          have k1 := blk_cell hb4 1
          have p0 := blk_cell hx4 0
          have p1 := blk_cell hx4 1
          have p2 := blk_cell hx4 2
          simp at k0 k1 p0 p1 p2
          obtain ⟨o9, ho9⟩ : ∃ o9, o9 = Obj.cells #[.slice A3 s1.kc.length c3, .slice B3 s1.kc.length d3, .int .i64 s1.now] 29 := ⟨_, rfl⟩
          have k0a := fun o => cell_alloc k0 o
          have k1a := fun o => cell_alloc k1 o
          have p0a := fun o => cell_alloc p0 o
          have p1a := fun o => cell_alloc p1 o
          have p2a := fun o => cell_alloc p2 o
          have y0 := blk_frozen hx4 0
          have y1 := blk_frozen hx4 1
          have y2 := blk_frozen hx4 2
          have z0 := fun o => blk_frozen (((Fr.refl No w4).alloc o).blk hx4 (fun f => f)) 0
          have z1 := fun o => blk_frozen (((Fr.refl No w4).alloc o).blk hx4 (fun f => f)) 1
          have z2 := fun o => blk_frozen (((Fr.refl No w4).alloc o).blk hx4 (fun f => f)) 2
          have hz4 := hf4.size
          have hlt4 : w3.heap.size < w4.heap.size := blk_lt hx4
          have hltb : b < w4.heap.size := blk_lt hb4
          have HC := Lib.hid (And.intro hcome (And.intro hf4 (And.intro hb4 hz4)))
          clear hcome hf4 hb4 hx4 hz4 l0 l1 l2 ho9
          go_wp2_with fail
          obtain ⟨W10, hW10⟩ : ∃ W10, W10 = (((w4.setCell ⟨w3.heap.size, 0, none⟩ (.slice A3 s1.kc.length c3)).setCell ⟨w3.heap.size, 1, none⟩ (.slice B3 s1.kc.length d3)).setCell ⟨w3.heap.size, 2, none⟩ (.int .i64 s1.now)).alloc (.cells #[.slice A3 s1.kc.length c3, .slice B3 s1.kc.length d3, .int .i64 s1.now] 29) := ⟨_, rfl⟩
          have hfr10 : Fr (fun i => i = w3.heap.size) w4 W10 := by
            rw [hW10]
            exact ((((Fr.refl (fun i => i = w3.heap.size) w4).set ⟨w3.heap.size, 0, none⟩ (.inl rfl) _).set ⟨w3.heap.size, 1, none⟩ (.inl rfl) _).set ⟨w3.heap.size, 2, none⟩ (.inl rfl) _).alloc _
          have hM10 : Mid w2 W10 sb w3.heap.size s s1 (fun i => wr.heap.size ≤ i ∧ i < wc.heap.size) := by
            rw [hW10]
            exact (HC.out.1.laid w4 (Fr.refl _ _)).fr0 ((Fr.refl No _).alloc _)
          have hsz10 := hfr10.size
          have hz4 := HC.out.2.2.2
          have hap := hM10.apply (c' := c8) (s.now + 1) (fun i hi => by have := hi.2; omega) HS.out.2.2.2.2.2.small (by omega) (((HA.out.2.2.1).fr0 HC.out.2.1).fr hfr10 fun i hi e => by have := hi.1; have := HA.out.2.2.2.2.2; omega) (by omega) HS.out.2.2.1
          rw [HS.out.2.1, HS.out.2.2.2.2.1] at hap
          have HP := Lib.hid hap
          rw [← hW10]
          clear hfr10 hM10 hsz10 hz4 hap hW10 k0a k1a p0a p1a p2a z0 z1 z2 y0 y1 y2 k0 k1 p0 p1 p2
          refine HP.out.mono ?_
          rintro e5 w5 ⟨rfl, hM5, _⟩
          have hM5 := hM5.mono (R' := No) fun i f => f.elim
          have hfine1 : s1.Fine (64 * k + 64) := by rw [← HS.out.2.2.2.2.1]; exact hfk.out.applied _ _
          have H5 := Lib.hid (And.intro hM5 hfine1)
          clear hM5 hfine1
          by_cases htl : k < ts.length
          · have htl1 : (k : Int) < (ts.length : Int) := by omega
            obtain ⟨adt, rfl, y00⟩ := u8_at H.out.2.2.2 htl
            have y0 := (HF2.out.trans (H5.out.1.fr.mono fun _ _ f => f.elim)).cell y00 (fun f => f)
            obtain ⟨r, hr⟩ : ∃ r, ts[k] = r := ⟨_, rfl⟩
            rw [hr] at y0 y00
            clear hr
            by_cases h3 : (r.toNat : Int) % 3 = 0
            · have hA : ((r.toNat : Int) % 3 == 0) = true := by rw [h3]; rfl
              clear h3
              have hr0 : (r.toNat : Int) < 256 := by have := r.toNat_lt; omega
              have hr1 : (r.toNat : Int) / 3 % 256 = (r.toNat : Int) / 3 := by omega
              obtain ⟨A5, c5, B5, d5, hbx5, _⟩ := H5.out.1.blk
              have htr := fun x => (H5.out.1.fr0 ((Fr.refl No w5).drew)).reftrim_at hbx5 H5.out.2 (by omega) x
              have l0 := blk_cell hbx5 0
              have l1 := blk_cell hbx5 1
              have l2 := blk_cell hbx5 2
              simp at l0 l1 l2
              have HWX : Hid (IntKind.i64.wrap (IntKind.i64.wrap (IntKind.u8.wrap ((r.toNat : Int) / 3)) - 2) = (r.toNat : Int) / 3 - 2) := by
                have h8 : IntKind.u8.wrap ((r.toNat : Int) / 3) = (r.toNat : Int) / 3 := by simp [IntKind.wrap, IntKind.signed, IntKind.bits]; omega
                show _ = _
                rw [h8, show IntKind.i64.wrap ((r.toNat : Int) / 3) = (r.toNat : Int) / 3 from IntWalk.i64_in _ (by omega), IntWalk.i64_in _ (by omega)]
              have hadt : Hid (¬ (adt.add k).block = w3.heap.size) := fun e => by have h1 := World.block_lt_of_cell? w _ y00; have h2 := HF2.out.size; have h3 := HM.out.low; omega
              have HT := Lib.hid (And.intro htr hbx5)
              clear htr hbx5
              go_wp2_with fail
              go_region_law
                (first
                  | (go_simp; go_at_call 25; refine (HT.out.1 _).mono ?_; rintro e6 w6 ⟨A6, c6, B6, d6, rfl, hf6, hcome6⟩
                     have hb6 := hf6.blk HT.out.2 (fun f => f)
                     have m0 := blk_cell hb6 0
                     have m1 := blk_cell hb6 1
                     have m2 := blk_cell hb6 2
                     have n0 := blk_frozen hb6 0
                     have n1 := blk_frozen hb6 1
                     have n2 := blk_frozen hb6 2
                     simp at m0 m1 m2
                     have y6 := hf6.cell y0 (fun f => f)
                     have y6a := fun u0 u1 u2 => ((((Fr.refl (fun i => i = w3.heap.size) w6).set ⟨w3.heap.size, 0, none⟩ (.inl rfl) u0).set ⟨w3.heap.size, 1, none⟩ (.inl rfl) u1).set ⟨w3.heap.size, 2, none⟩ (.inl rfl) u2).cell y6 hadt.out
                     rw [HWX.out] at hcome6
                     have H6 := Lib.hid ((hcome6.laid w6 (Fr.refl _ _)).trim ((r.toNat : Int) / 3 - 2) (fun i f => f.elim) H5.out.2.small (by omega))
                     clear hf6 hcome6 hb6))
              all_goals
                go_wp2_with fail
                refine H6.out.mono ?_
                rintro e7 w7 ⟨rfl, hM7, _⟩
                have H7 := Lib.hid hM7
                clear hM7
                go_wp2_with fail
                go_roundw
                case rel => exact ⟨k + 1, by go_num, ⟨by omega, _, (H5.out.2.trim ((r.toNat : Int) / 3 - 2)).mono (by omega), H7.out⟩⟩
                case measure => simp [intOf]; omega
            · have hA : ((r.toNat : Int) % 3 == 0) = false := beq_eq_false_iff_ne.2 h3
              clear h3
              go_wp2_with fail
              go_roundw
              case rel => exact ⟨k + 1, by go_num, ⟨by omega, s1, H5.out.2.mono (by omega), H5.out.1⟩⟩
              case measure => simp [intOf]; omega
          · have htl1 : ¬ (k : Int) < (ts.length : Int) := by omega
            go_wp2_with fail
            go_roundw
            case rel => exact ⟨k + 1, by go_num, ⟨by omega, s1, H5.out.2.mono (by omega), H5.out.1⟩⟩
            case measure => simp [intOf]; omega
    · obtain rfl : k = ls.length := by omega
      obtain ⟨FM, FS, hV, hS⟩ := HMid.out.1.box_eq hblk
      have HL := Lib.hid (And.intro (law_like hS hV hfine (by omega)) hwr)
      clear hV hS hblk
      go_wp2_with fail
      refine HL.out.1.mono ?_
      rintro e9 w9 ⟨rfl, hf9⟩
      go_wp2_with fail
      go_ret
      exact ⟨rfl, HL.out.2.trans (hf9.mono fun _ _ f => f.elim)⟩

set_option maxHeartbeats 2000000 in
set_option maxRecDepth 100000 in
theorem law_plays {w : World} {F G : Nat → Prop} {D E : Option Addr} {e1 e2 : Nat} {ls : List (List Actn)} {ts : Bs} (h : Rd (Ty.slice tAct) w F D ls) (ht : Rd Ty.u8 w G E ts) :
    Calls Try.prog 7 #[.slice D ls.length e1, .slice E ts.length e2] w fun e w' => e = .returned (.bool true) ∧ Fr No w w' := by
  have hlots := fun w' (f : Fr No w w') => law_lots (c := e1) (h.fr0 f)
  have hone := Lib.hid law_one
  cases hlb : lotsB ls with
  | true => exact law_plays_ok h ht hlb
  | false =>
    · rw [hlb] at hlots
      have H := Lib.hid hlots
      clear hlots hlb h ht
      go_enter Try.func7, Try.ntmps7
      go_wp2_with fail
      refine (hone.out w).mono ?_
      rintro e1 w1 ⟨rfl, hf1⟩
      have HF1 := Lib.hid (hf1)
      clear hf1
      go_wp2_with fail
      refine (H.out _ HF1.out).mono ?_
      rintro e2 w2 ⟨rfl, hf2⟩
      have HF2 := Lib.hid (HF1.out.trans (hf2.mono fun _ _ f => f.elim))
      clear hf2
      go_wp2_with fail
      refine (hone.out w2).mono ?_
      rintro e3 w3 ⟨rfl, hf3⟩
      have HF3 := Lib.hid (HF2.out.trans (hf3.mono fun _ _ f => f.elim))
      clear hf3
      go_wp2_with fail
      go_ret
      exact ⟨rfl, HF3.out⟩
end Go.Proofs.Ytehlfcdipoognaa
