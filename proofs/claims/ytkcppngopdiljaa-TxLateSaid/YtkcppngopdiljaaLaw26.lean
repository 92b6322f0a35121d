/- Laws of layer 14 (tx): TxLate. -/
import Derived.Test.YtkcppngopdiljaaLaw23
import Derived.Test.YtkcppngopdiljaaLaw4
import Derived.Test.YtkcppngopdiljaaRef14b
import Derived.Test.YtkcppngopdiljaaRef13e
import Derived.Test.YtkcppngopdiljaaTx6
set_option linter.unusedVariables false
set_option linter.unusedSimpArgs false
namespace Go.Proofs.Ytkcppngopdiljaa
open Go.RowKit

theorem late_none (s : Sto) {m : Nat} (h : s.Fine m) (k : ByteArray) (row : Bs) (g : Bool) : ([⟨k, row, g⟩] : List Wr).any (fun x => decide (s.now < s.last x.key)) = false := by
  have := h.last_le k
  simp only [List.any_cons, List.any_nil, Bool.or_false, Sto.last]
  exact decide_eq_false (by omega)

set_option maxHeartbeats 2000000 in
set_option maxRecDepth 100000 in
theorem law_late_ok {w : World} {F G : Nat → Prop} {D E : Option Addr} {e1 e2 : Nat} {ls : List (List Actn)} {l : List Actn} (base : Int) (h : Rd (Ty.slice tAct) w F D ls) (ha : Rd tAct w G E l) (hlb : lotsB ls = true) (hl : l.length ≤ 40) :
    Calls Try.prog 6 #[.slice D ls.length e1, .int .i64 base, .slice E l.length e2] w fun e w' => e = .returned (.bool true) ∧ Fr No w w' := by
  have hlI : (l.length : Int) ≤ 40 := by omega
  have hlots := fun w' (f : Fr No w w') => law_lots (c := e1) (h.fr0 f)
  rw [hlb] at hlots
  have hst := fun w' (f : Fr No w w') => law_stored (e := e1) (h.fr0 f) hlb
  have hfine : (stAll Sto.empty ls).Fine 2560 := (stAll_fine empty_fine ls).mono (by have := (lotsB_all hlb).1; omega)
  have hwr := fun w' (f : Fr No w w') (base : Int) => law_written (e1 := e2) base (ha.fr0 f) (by omega)
  have hok := wrAll_ok nil_ok l
  obtain ⟨ws, hws⟩ : ∃ ws, wrAll [] l = ws := ⟨_, rfl⟩
  simp only [hws] at hwr hok
  obtain ⟨s, hs⟩ : ∃ s, stAll Sto.empty ls = s := ⟨_, rfl⟩
  simp only [hs] at hst hfine
  obtain ⟨hn0, hn1⟩ := nowi hfine (by omega)
  have H := Lib.hid (And.intro hlots (And.intro hst (And.intro hfine (And.intro hwr hok))))
  clear hlots hst hfine hlb hs h hwr hok hws ha
  go_enter Try.func6, Try.ntmps6
  go_wp2_with fail
  refine (law_both w).mono ?_
  rintro e1 w1 ⟨rfl, hf1⟩
  have HF1 := Lib.hid hf1
  clear hf1
  go_wp2_with fail
  refine (H.out.1 _ HF1.out).mono ?_
  rintro e2 w2 ⟨rfl, hf2⟩
  have HF2 := Lib.hid (HF1.out.trans (hf2.mono fun _ _ f => f.elim))
  clear hf2 HF1
  go_wp2_with fail
  refine (H.out.2.1 _ HF2.out).mono ?_
  rintro e3 w3 ⟨sb, A, c, B, d, rfl, hsd, hf3⟩
  obtain ⟨W, hW⟩ : ∃ W, W = w3.alloc (.cells #[.slice A s.kc.length c, .slice B s.kc.length d, .int .i64 s.now] 55) := ⟨_, rfl⟩
  have hfW : Fr No w3 W := by rw [hW]; exact (Fr.refl No w3).alloc _
  have hbW : W.heap[w3.heap.size]? = some (.cells #[.slice A s.kc.length c, .slice B s.kc.length d, .int .i64 s.now] 55 (0, 0)) := by rw [hW]; exact heap_alloc_new w3 _
  have hM := hsd.made W w3.heap.size hfW (Nat.le_refl _) hbW
  have hFW : Fr No w W := (HF2.out.trans (hf3.mono fun _ _ f => f.elim)).trans (hfW.mono fun _ _ f => f.elim)
  have HM := Lib.hid (And.intro hM (And.intro hFW hbW))
  clear hM hbW hfW hf3 hsd HF2 hFW
  obtain ⟨bm, hbm⟩ : ∃ bm : Int, base.tmod 12 = bm := ⟨_, rfl⟩
  go_wp2_with fail
  rw [← hW]
  clear hW
  refine (H.out.2.2.2.1 _ HM.out.2.1 bm).mono ?_
  clear hbm
  rintro e4 w4 ⟨xb, A4, c4, rfl, hc4, ⟨FX, FM, hT, hMx, hdis⟩, hf4⟩
  obtain ⟨W5, hW5⟩ : ∃ W5, W5 = w4.alloc (.cells #[.int .i64 bm, .slice A4 ws.length c4] 34) := ⟨_, rfl⟩
  have hfW5 : Fr No w4 W5 := by rw [hW5]; exact (Fr.refl No w4).alloc _
  have hbW5 : W5.heap[w4.heap.size]? = some (.cells #[.int .i64 bm, .slice A4 ws.length c4] 34 (0, 0)) := by rw [hW5]; exact heap_alloc_new w4 _
  have hMid5 := (HM.out.1.fr0 hf4).fr0 hfW5
  have hb5 := (hf4.trans (hfW5.mono fun _ _ f => f.elim)).blk HM.out.2.2 (fun f => f)
  have b2 := blk_cell (hf4.blk HM.out.2.2 (fun f => f)) 2
  simp at b2
  have b2a := fun o => cell_alloc b2 o
  have HX := Lib.hid (And.intro (hT.fr0 hfW5) (And.intro (hMx.fr0 hfW5) (And.intro hMid5 (And.intro hb5 (And.intro hbW5 (And.intro hc4 ((HM.out.2.1.trans (hf4.mono fun _ _ f => f.elim)).trans (hfW5.mono fun _ _ f => f.elim))))))))
  clear hT hMx hdis hf4 hfW5 hbW5 hMid5 hb5 hc4
  have hlow : w4.heap.size < W5.heap.size := blk_lt HX.out.2.2.2.2.1
  go_wp2_with fail
  rw [← hW5]
  clear hW5
  refine (tx_new s.now W5).mono ?_
  rintro e6 w6 ⟨yb, rfl, hy, hf6⟩
  have hput := tx_put (A := none) (n := 0) (c := 0) (R := No) (row := []) ⟨#[107, 1]⟩ hy Rd.nil (by simp) rfl (by simp)
  have HY := Lib.hid (And.intro hput hf6)
  clear hput hy hf6 b2 b2a
  go_wp2_with fail
  refine HY.out.1.mono ?_
  rintro e7 w7 ⟨rfl, hy7, hf7⟩
  change TxAt w7 _ yb s.now [⟨⟨#[107, 1]⟩, [], false⟩] at hy7
  have f57 : Fr No W5 w7 := HY.out.2.trans (hf7.mono fun i _ hi => .inr hi)
  have hMid7 := HX.out.2.2.1.fr0 f57
  obtain ⟨FS, hS⟩ := hMid7.store
  obtain ⟨A9, c9, B9, d9, hblk, FM9, hV⟩ := hMid7.blk
  have hb7 := f57.blk HX.out.2.2.2.2.1 (fun f => f)
  have b0 := blk_cell hblk 0
  have b1 := blk_cell hblk 1
  have b2 := blk_cell hblk 2
  have m0 := blk_cell hb7 0
  have m1 := blk_cell hb7 1
  simp at b0 b1 b2 m0 m1
  have hx1 := fun w' (f : Fr No w7 w') => tx_late ((HX.out.1.fr0 f57).fr0 f) (hS.fr0 f) (by have := H.out.2.2.2.2.len; omega) (fun x hx => by have := H.out.2.2.2.2.small x hx; exact ⟨by omega, by omega⟩)
  have hx2 := fun w' (f : Fr No w7 w') => ref_late (F := FM) (FM := FM9) (base := bm) (ws := ws) (v := .agg #[.int .i64 bm, .slice A4 ws.length c4]) ⟨A4, c4, rfl, HX.out.2.2.2.2.2.1, (HX.out.2.1.fr0 f57).fr0 f⟩ (hV.fr0 f) H.out.2.2.1 (by omega) (by have := H.out.2.2.2.2.len; omega)
  have hx3 := fun w' (f : Fr No w7 w') => tx_late (hy7.fr0 f) (hS.fr0 f) (by simp) (fun x hx => by obtain rfl := List.mem_singleton.1 hx; exact ⟨by show (2 : Nat) ≤ _; omega, by simp⟩)
  simp only [late_none s H.out.2.2.1] at hx3
  have hx4 := fun w' (f : Fr No w7 w') w'' (f' : Fr No w' w'') b (hb : TxAt w' (fun k => w'.heap.size ≤ k) b base []) => hb
  have hx5 := fun w' (f : Fr No w7 w') F' b (hb : TxAt w' F' b base []) => tx_late hb (hS.fr0 f) (by simp) (fun x hx => by cases hx)
  obtain ⟨r, hr⟩ : ∃ r, ws.any (fun x => decide (bm < s.last x.key)) = r := ⟨_, rfl⟩
  simp only [hr] at hx1 hx2
  simp only [List.any_nil] at hx5
  have HE := Lib.hid (And.intro hx1 (And.intro hx2 (And.intro hx3 (And.intro hx5 (HX.out.2.2.2.2.2.2.trans (f57.mono fun _ _ f => f.elim))))))
  clear hx1 hx2 hx3 hx4 hx5 hr f57 hMid7 hS hV hblk hb7 hy7 hf7 HX HM HY hn0 hn1 hlow
  have hrr : (r == r) = true := by cases r <;> rfl
  go_wp2_with fail
  go_region_held3 (fun w' => w'.cell? ⟨w3.heap.size, 0, none⟩ = some (.slice A9 s.kc.length c9) ∧ w'.cell? ⟨w3.heap.size, 1, none⟩ = some (.slice B9 s.kc.length d9) ∧ w'.cell? ⟨w3.heap.size, 2, none⟩ = some (.int .i64 s.now) ∧ w'.cell? ⟨w4.heap.size, 0, none⟩ = some (.int .i64 bm) ∧ w'.cell? ⟨w4.heap.size, 1, none⟩ = some (.slice A4 ws.length c4))
    (first
      | exact ⟨b0, b1, b2, m0, m1⟩
      | exact ⟨q0, q1, q2, q3, q4⟩)
    (first
      | (go_at_call 24; refine (HE.out.2.1 _ (by repeat (first | assumption | exact Fr.refl _ _ | apply Fr.drew | apply Fr.drewN))).mono ?_; rintro e8 w8 ⟨rfl, hf8⟩
         have g8 : Fr No w7 w8 := Fr.trans (by repeat (first | assumption | exact Fr.refl _ _ | apply Fr.drew | apply Fr.drewN)) (hf8.mono fun _ _ f => f.elim)
         have q0 := g8.cell b0 (fun f => f)
         have q1 := g8.cell b1 (fun f => f)
         have q2 := g8.cell b2 (fun f => f)
         have q3 := g8.cell m0 (fun f => f)
         have q4 := g8.cell m1 (fun f => f)
         clear hf8)
      | (go_at_call 11; refine (tx_new base _).mono ?_; rintro e9 w9 ⟨zb, rfl, hz, hf9⟩
         have g9 : Fr No w7 w9 := Fr.trans (by repeat (first | assumption | exact Fr.refl _ _ | apply Fr.drew | apply Fr.drewN)) (hf9.mono fun _ _ f => f.elim)
         have HZ := Lib.hid hz
         have q0 := g9.cell b0 (fun f => f)
         have q1 := g9.cell b1 (fun f => f)
         have q2 := g9.cell b2 (fun f => f)
         have q3 := g9.cell m0 (fun f => f)
         have q4 := g9.cell m1 (fun f => f)
         clear hf9 hz)
      | (go_at_call 23; first | refine (HE.out.1 _ (by repeat (first | assumption | exact Fr.refl _ _ | apply Fr.drew | apply Fr.drewN))).mono ?_ | refine (HE.out.2.2.1 _ (by repeat (first | assumption | exact Fr.refl _ _ | apply Fr.drew | apply Fr.drewN))).mono ?_ | refine (HE.out.2.2.2.1 _ (by repeat (first | assumption | exact Fr.refl _ _ | apply Fr.drew | apply Fr.drewN)) _ _ (HZ.out.fr0 (by repeat (first | assumption | exact Fr.refl _ _ | apply Fr.drew | apply Fr.drewN)))).mono ?_
         rintro ea wa ⟨rfl, hfa⟩
         have ga : Fr No w7 wa := Fr.trans (by repeat (first | assumption | exact Fr.refl _ _ | apply Fr.drew | apply Fr.drewN)) (hfa.mono fun _ _ f => f.elim)
         have q0 := ga.cell b0 (fun f => f)
         have q1 := ga.cell b1 (fun f => f)
         have q2 := ga.cell b2 (fun f => f)
         have q3 := ga.cell m0 (fun f => f)
         have q4 := ga.cell m1 (fun f => f)
         clear hfa))
  all_goals
    go_wp2_with fail
    go_ret
    exact ⟨rfl, HE.out.2.2.2.2.trans (Fr.mono (F := No) (by repeat (first | assumption | exact Fr.refl _ _ | apply Fr.drew | apply Fr.drewN)) fun _ _ f => f.elim)⟩

set_option maxHeartbeats 2000000 in
set_option maxRecDepth 100000 in
theorem law_late {w : World} {F G : Nat → Prop} {D E : Option Addr} {e1 e2 : Nat} {ls : List (List Actn)} {l : List Actn} (base : Int) (h : Rd (Ty.slice tAct) w F D ls) (ha : Rd tAct w G E l) :
    Calls Try.prog 6 #[.slice D ls.length e1, .int .i64 base, .slice E l.length e2] w fun e w' => e = .returned (.bool true) ∧ Fr No w w' := by
  have hlots := fun w' (f : Fr No w w') => law_lots (c := e1) (h.fr0 f)
  have hone := Lib.hid law_both
  have hli : (l.length : Int) ≤ 9223372036854775807 := by have := ha.1; omega
  cases hlb : lotsB ls with
  | false =>
    · rw [hlb] at hlots
      have H := Lib.hid hlots
      clear hlots hlb h ha
      go_enter Try.func6, Try.ntmps6
      go_wp2_with fail
      refine (hone.out w).mono ?_
      rintro e1 w1 ⟨rfl, hf1⟩
      have HF1 := Lib.hid (hf1)
      clear hf1
      go_wp2_with fail
      refine (H.out _ HF1.out).mono ?_
      rintro e2 w2 ⟨rfl, hf2⟩
      have HF2 := Lib.hid (HF1.out.trans (hf2.mono fun _ _ f => f.elim))
      clear hf2
      go_wp2_with fail
      refine (hone.out w2).mono ?_
      rintro e3 w3 ⟨rfl, hf3⟩
      have HF3 := Lib.hid (HF2.out.trans (hf3.mono fun _ _ f => f.elim))
      clear hf3
      go_wp2_with fail
      go_ret
      exact ⟨rfl, HF3.out⟩
  | true =>
    by_cases hal : l.length ≤ 40
    · exact law_late_ok base h ha hlb hal
    · have hal2 : 40 < (l.length : Int) := by omega
      rw [hlb] at hlots
      have H := Lib.hid hlots
      clear hlots hlb h ha hal
      go_enter Try.func6, Try.ntmps6
      go_wp2_with fail
      refine (hone.out w).mono ?_
      rintro e1 w1 ⟨rfl, hf1⟩
      have HF1 := Lib.hid (hf1)
      clear hf1
      go_wp2_with fail
      refine (H.out _ HF1.out).mono ?_
      rintro e2 w2 ⟨rfl, hf2⟩
      have HF2 := Lib.hid (HF1.out.trans (hf2.mono fun _ _ f => f.elim))
      clear hf2
      go_wp2_with fail
      refine (hone.out w2).mono ?_
      rintro e3 w3 ⟨rfl, hf3⟩
      have HF3 := Lib.hid (HF2.out.trans (hf3.mono fun _ _ f => f.elim))
      clear hf3
      go_wp2_with fail
      go_ret
      exact ⟨rfl, HF3.out⟩
end Go.Proofs.Ytkcppngopdiljaa
