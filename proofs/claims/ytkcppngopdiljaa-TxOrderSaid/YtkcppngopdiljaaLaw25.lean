/- Laws of layer 14 (tx): TxOrder. -/
import Derived.Test.YtkcppngopdiljaaLaw23
import Derived.Test.YtkcppngopdiljaaTx5
import Derived.BigQuiet
set_option linter.unusedVariables false
set_option linter.unusedSimpArgs false
namespace Go.Proofs.Ytkcppngopdiljaa
open Go.RowKit

set_option maxHeartbeats 4000000 in
set_option maxRecDepth 100000 in
theorem law_order_ok {w : World} {G : Nat → Prop} {E : Option Addr} {e1 : Nat} {l : List Actn} (h : Rd tAct w G E l) (hl : l.length ≤ 60) :
    Calls Try.prog 5 #[.slice E l.length e1] w fun e w' => e = .returned (.bool true) ∧ Fr No w w' := by
  have hlI : (l.length : Int) ≤ 60 := by omega
  have hwr := fun w' (f : Fr No w w') => law_written (e1 := e1) 1 (h.fr0 f) (by omega)
  have hok := wrAll_ok nil_ok l
  obtain ⟨ws, hws⟩ : ∃ ws, wrAll [] l = ws := ⟨_, rfl⟩
  simp only [hws] at hwr hok
  have hnl : (ws.length : Int) ≤ 20 := by have := hok.len; omega
  have H := Lib.hid (And.intro hwr hok)
  clear hwr hok h hws
  go_enter Try.func5, Try.ntmps5
  go_wp2_with fail
  refine (law_both w).mono ?_
  rintro e1 w1 ⟨rfl, hf1⟩
  have HF1 := Lib.hid hf1
  clear hf1
  go_wp2_with fail
  refine (H.out.1 _ HF1.out).mono ?_
  rintro e3 w3 ⟨xb, A, c, rfl, hc, ⟨FX, FM, hT, hM, hdis⟩, hf3⟩
  obtain ⟨W, hW⟩ : ∃ W, W = w3.alloc (.cells #[.int .i64 1, .slice A ws.length c] 34) := ⟨_, rfl⟩
  have hfW : Fr No w3 W := by rw [hW]; exact (Fr.refl No w3).alloc _
  have hws := tx_writes (hT.fr0 hfW) (by have := H.out.2.len; omega) (fun x hx => by have := H.out.2.small x hx; exact ⟨by omega, by omega⟩)
  have HW := Lib.hid (And.intro hws (And.intro (hT.fr0 hfW) ((HF1.out.trans (hf3.mono fun _ _ f => f.elim)).trans (hfW.mono fun _ _ f => f.elim))))
  clear hws hT hM hdis hf3 hfW
  go_wp2_with fail
  rw [← hW]
  clear hW
  refine HW.out.1.mono ?_
  rintro e4 w4 ⟨A4, c4, rfl, ho4, hf4⟩
  have HS := Lib.hid (And.intro ho4.rd.2.2 (And.intro (HW.out.2.1.fr0 hf4) (HW.out.2.2.trans (hf4.mono fun _ _ f => f.elim))))
  clear ho4 hf4
  go_wp2_with fail
  go_loopw [7] (fun v wr => ∃ j : Nat, v = .int .i64 ((j + 1 : Nat) : Int) ∧ Hid (Fr No w4 wr)) (fun v _ => 100 - (intOf v).toNat + (ws.length - (intOf v).toNat))
  case atStart => exact ⟨0, by first | rfl | simp, Fr.refl _ _⟩
  case round =>
    obtain ⟨j, rfl, hf⟩ := hrel
    have hq0 : (0 : Int) ≤ (j : Int) := Int.natCast_nonneg _
    by_cases hlt : j + 1 < ws.length
    · have hq1 : (j : Int) + 1 < (ws.length : Int) := by omega
      have hq2 : (j : Int) < (ws.length : Int) := by omega
      obtain ⟨ad, B, d, rfl, x0, _, _, _⟩ := wrO_at (HS.out.1.fr0 hf.out) (i := j) (by omega)
      obtain ⟨ad', B', d', hAd, y0, _, _, _⟩ := wrO_at (HS.out.1.fr0 hf.out) hlt
      obtain rfl := Option.some.inj hAd
      have hlk : Op.bytesLess ws[j].key.toList ws[j + 1].key.toList = true := by
        have := List.pairwise_iff_getElem.1 H.out.2.rising j (j + 1) (by simp; omega) (by simpa using hlt) (by omega)
        simpa [kl] using this
      obtain ⟨k1, hk1⟩ : ∃ k1, ws[j].key = k1 := ⟨_, rfl⟩
      obtain ⟨k2, hk2⟩ : ∃ k2, ws[j + 1].key = k2 := ⟨_, rfl⟩
      rw [hk1] at x0 hlk
      rw [hk2] at y0 hlk
      clear hk1 hk2 hAd
      have hw1 : IntKind.i64.wrap ((j : Int) + 1 - 1) = (j : Int) := by rw [show (j : Int) + 1 - 1 = j by omega]; exact IntWalk.i64_in _ (by omega)
      have ht1 : ((j : Int) + 1).toNat = j + 1 := by omega
      go_wp2_with fail
      go_quiet (fail)
      go_wp2_with fail
      go_roundw
      case rel => exact ⟨j + 1, by go_num, by show Fr No w4 _; exact hf.out.drewN _⟩
      case measure => simp [intOf]; omega
    · have hq1 : ¬ (j : Int) + 1 < (ws.length : Int) := by omega
      obtain ⟨w5, hw5⟩ : ∃ w5, w5 = wr := ⟨_, rfl⟩
      subst hw5
      go_wp2_with fail
      go_loopw [8] (fun v wr => ∃ k : Nat, k ≤ ws.length ∧ v = .int .i64 k ∧ Hid (Fr No w4 wr)) (fun v _ => ws.length - (intOf v).toNat)
      case atStart => exact ⟨0, Nat.zero_le _, rfl, hf⟩
      case round =>
        obtain ⟨k, hk, rfl, hf2⟩ := hrel
        have hp0 : (0 : Int) ≤ (k : Int) := Int.natCast_nonneg _
        by_cases hlt2 : k < ws.length
        · have hp1 : (k : Int) < (ws.length : Int) := by omega
          obtain ⟨ad, B, d, rfl, x0, x1, x2, hrow⟩ := wrO_at (HS.out.1.fr0 hf2.out) hlt2
          have hget := fun w' (f : Fr No w4 w') (s : Option Addr) => tx_get_own (s := s) ws[k].key (HS.out.2.1.fr0 f) (wfind_at H.out.2.rising hlt2) (by have := (H.out.2.small _ (List.getElem_mem hlt2)).2; omega)
          obtain ⟨x, hx⟩ : ∃ x, ws[k] = x := ⟨_, rfl⟩
          rw [hx] at x0 x1 x2 hrow
          simp only [hx] at hget
          have HG := Lib.hid (And.intro hget hrow)
          clear hget hrow hx
          have g4 := hf2.out
          go_wp2_with fail
          go_region_held3 (fun w' => w'.cell? (ad.add (k * 3)) = some (.string x.key))
            (first
              | exact x0
              | exact q0)
            (first
              | (go_at_call 19; refine (store_new _).mono ?_; rintro e6 w6 ⟨sb, rfl, _, hf6⟩
                 have g6 : Fr No w4 w6 := Fr.trans (by repeat (first | assumption | exact Fr.refl _ _ | apply Fr.drew | apply Fr.drewN)) (hf6.mono fun _ _ f => f.elim)
                 have r6 : Fr No wr w6 := Fr.trans (by repeat (first | assumption | exact Fr.refl _ _ | apply Fr.drew | apply Fr.drewN)) (hf6.mono fun _ _ f => f.elim)
                 have q0 := r6.cell x0 (fun f => f)
                 clear hf6)
              | (go_at_call 18; refine (HG.out.1 _ (by repeat (first | assumption | exact Fr.refl _ _ | apply Fr.drew | apply Fr.drewN)) _).mono ?_; rintro e7 w7 ⟨A7, c7, rfl, ho7, hf7⟩
                 have g7 : Fr No w4 w7 := Fr.trans (by repeat (first | assumption | exact Fr.refl _ _ | apply Fr.drew | apply Fr.drewN)) (hf7.mono fun _ _ f => f.elim)
                 have r7 : Fr No wr w7 := Fr.trans (by repeat (first | assumption | exact Fr.refl _ _ | apply Fr.drew | apply Fr.drewN)) (hf7.mono fun _ _ f => f.elim)
                 have q0 := r7.cell x0 (fun f => f)
                 have q1 := r7.cell x1 (fun f => f)
                 have q2 := r7.cell x2 (fun f => f)
                 have hby := ref_bytes_q (c := c7) (d := d) ho7.rd.2.2 (HG.out.2.rd.2.2.fr0 r7)
                 simp only [decide_true] at hby
                 have HBy := Lib.hid hby
                 clear hf7 ho7 hby))
          all_goals
            have hgb : ((!x.gone) == x.gone) = false := by cases x.gone <;> rfl
            go_wp2_with fail
            refine HBy.out.mono ?_
            rintro e9 w9 ⟨rfl, m9, rfl⟩
            go_wp2_with fail
            go_roundw
            case rel => exact ⟨k + 1, by omega, by go_num, g7.drewN _⟩
            case measure => simp [intOf]; omega
        · obtain rfl : k = ws.length := by omega
          go_wp2_with fail
          go_ret
          exact ⟨rfl, HS.out.2.2.trans (hf2.out.mono fun _ _ f => f.elim)⟩

set_option maxHeartbeats 2000000 in
set_option maxRecDepth 100000 in
theorem law_order {w : World} {G : Nat → Prop} {E : Option Addr} {e1 : Nat} {l : List Actn} (h : Rd tAct w G E l) :
    Calls Try.prog 5 #[.slice E l.length e1] w fun e w' => e = .returned (.bool true) ∧ Fr No w w' := by
  have hone := Lib.hid law_both
  have hli : (l.length : Int) ≤ 9223372036854775807 := by have := h.1; omega
  by_cases hl : l.length ≤ 60
  · exact law_order_ok h hl
  · · have hl2 : 60 < (l.length : Int) := by omega
      clear h hl
      go_enter Try.func5, Try.ntmps5
      go_wp2_with fail
      refine (hone.out w).mono ?_
      rintro e1 w1 ⟨rfl, hf1⟩
      have HF1 := Lib.hid (hf1)
      clear hf1
      go_wp2_with fail
      refine (hone.out w1).mono ?_
      rintro e2 w2 ⟨rfl, hf2⟩
      have HF2 := Lib.hid (HF1.out.trans (hf2.mono fun _ _ f => f.elim))
      clear hf2
      go_wp2_with fail
      go_ret
      exact ⟨rfl, HF2.out⟩
end Go.Proofs.Ytkcppngopdiljaa
