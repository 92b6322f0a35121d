/- Laws of layer 13 (store): StoreScans. -/
import Derived.Test.YtehlfcdipoognaaLaw5
import Derived.Test.YtehlfcdipoognaaLaw1
set_option linter.unusedVariables false
set_option linter.unusedSimpArgs false
namespace Go.Proofs.Ytehlfcdipoognaa
open Go.RowKit

theorem scan_ksz {s : Sto} {m : Nat} (h : s.Small m) (a : Int) (lo hi : ByteArray) (most : Int) : ∀ x ∈ s.scan a lo hi most, x.1.size ≤ 9223372036854775807 := by
  intro x hx
  unfold Sto.scan Sto.all at hx
  have hx := List.mem_of_mem_take hx
  rw [List.mem_filterMap] at hx
  obtain ⟨p, hp, he⟩ := hx
  have := h.ksz p hp
  split at he
  · split at he
    · injection he with he
      subst he
      show p.1.size ≤ _
      omega
    · cases he
  · cases he

/-- Two scans, compared. -/
theorem items_same {w w1 : World} {F G : Nat → Prop} {A B : Option Addr} {c d : Nat} {l : List Item} (h : Rd tItem w F A l) (k : Rd tItem w G B l) (hk : ∀ x ∈ l, x.1.size ≤ 9223372036854775807) (f : Fr No w w1) :
    Calls Try.prog 14 #[.slice A l.length c, .slice B l.length d] w1 fun e w' => e = .returned (.bool true) ∧ Fr No w1 w' := by
  refine (law_items (h.fr0 f) (k.fr0 f) hk).mono ?_
  rintro e w' ⟨rfl, hf⟩
  exact ⟨by simp, hf⟩

set_option maxHeartbeats 4000000 in
set_option maxRecDepth 100000 in
theorem law_scans {w : World} {F : Nat → Prop} {D : Option Addr} {e : Nat} {ls : List (List Actn)} (a : Int) (lo hi : ByteArray) (most : Int) (near : Bool) (h : Rd (Ty.slice tAct) w F D ls) (hlo : lo.size ≤ 9223372036854775807) (hhi : hi.size ≤ 9223372036854775807) :
    Calls Try.prog 3 #[.slice D ls.length e, .int .i64 a, .string lo, .string hi, .int .i64 most, .bool near] w fun e w' => e = .returned (.bool true) ∧ Fr No w w' := by
  have hlots := fun w' (f : Fr No w w') => law_lots (c := e) (h.fr0 f)
  have hl0 : (0 : Int) ≤ (lo.size : Int) := Int.natCast_nonneg _
  have hh0 : (0 : Int) ≤ (hi.size : Int) := Int.natCast_nonneg _
  by_cases hc : lotsB ls = true ∧ lo.size ≤ 20 ∧ hi.size ≤ 20
  · obtain ⟨hlb, hlo2, hhi2⟩ := hc
    rw [hlb] at hlots
    have hlo3 : (lo.size : Int) ≤ 20 := by omega
    have hhi3 : (hi.size : Int) ≤ 20 := by omega
    have hst := fun w' (f : Fr No w w') => law_stored (e := e) (h.fr0 f) hlb
    have hfine : (stAll Sto.empty ls).Fine 1280 := (stAll_fine empty_fine ls).mono (by have := (lotsB_all hlb).1; omega)
    obtain ⟨s, hs⟩ : ∃ s, stAll Sto.empty ls = s := ⟨_, rfl⟩
    simp only [hs] at hst hfine
    have H := Lib.hid (And.intro hlots (And.intro hst hfine))
    clear hlots hst hfine hlb hs h
    go_enter Try.func3, Try.ntmps3
    go_wp2_with fail
    refine (law_one w).mono ?_
    rintro e1 w1 ⟨rfl, hf1⟩
    have HF1 := Lib.hid hf1
    clear hf1
    go_wp2_with fail
    refine (H.out.1 _ HF1.out).mono ?_
    rintro e2 w2 ⟨rfl, hf2⟩
    have HF2 := Lib.hid (HF1.out.trans (hf2.mono fun _ _ f => f.elim))
    clear hf2 HF1
    go_wp2_with fail
    refine (H.out.2.1 _ HF2.out).mono ?_
    rintro e3 w3 ⟨sb, A, c, B, d, rfl, hsd, hf3⟩
    obtain ⟨W, hW⟩ : ∃ W, W = w3.alloc (.cells #[.slice A s.kc.length c, .slice B s.kc.length d, .int .i64 s.now] 29) := ⟨_, rfl⟩
    have hfW : Fr No w3 W := by rw [hW]; exact (Fr.refl No w3).alloc _
    have hbW : W.heap[w3.heap.size]? = some (.cells #[.slice A s.kc.length c, .slice B s.kc.length d, .int .i64 s.now] 29 (0, 0)) := by rw [hW]; exact heap_alloc_new w3 _
    have hM := hsd.made W w3.heap.size hfW (Nat.le_refl _) hbW
    have hF : Fr No w W := (HF2.out.trans (hf3.mono fun _ _ f => f.elim)).trans (hfW.mono fun _ _ f => f.elim)
    obtain ⟨FS, hS⟩ := hM.store
    obtain ⟨A0, c0, B0, d0, hb0, FM, hV⟩ := hM.blk
    rw [hbW] at hb0
    injection hb0 with hb0
    simp only [Obj.cells.injEq, Array.mk.injEq, List.cons.injEq, Value.slice.injEq] at hb0
    obtain ⟨⟨⟨rfl, _, rfl⟩, ⟨rfl, _, rfl⟩, _⟩, _⟩ := hb0
    have hscan := fun w' (f : Fr No W w') a lo hi most => store_scan (hS.fr0 f) H.out.2.2.small (by omega) a lo hi most
    have hrscan := fun w' (f : Fr No W w') a lo hi most => ref_scan a lo hi most (hV.fr0 f) H.out.2.2 (by omega)
    have a0 := blk_cell hbW 0
    have a1 := blk_cell hbW 1
    have a2 := blk_cell hbW 2
    simp at a0 a1 a2
    have HS := Lib.hid (And.intro hscan (And.intro hrscan (And.intro hF (scan_ksz H.out.2.2.small))))
    clear hscan hrscan hF hM hS hV hbW hfW hf3 hsd HF2
    go_wp2_with fail
    all_goals
      rw [← hW]
      clear hW
      refine (HS.out.1 _ (Fr.refl _ _) _ _ _ _).mono ?_
      rintro e4 wS ⟨A4, c4, rfl, ho4, gS⟩
      have q0 := gS.cell a0 (fun f => f)
      have q1 := gS.cell a1 (fun f => f)
      have q2 := gS.cell a2 (fun f => f)
      have hx1 := Lib.hid ho4.rd.2.2
      clear ho4
      go_wp2_with fail
      go_region_held3 (fun w' => w'.cell? ⟨w3.heap.size, 0, none⟩ = some (.slice A s.kc.length c) ∧ w'.cell? ⟨w3.heap.size, 1, none⟩ = some (.slice B s.kc.length d) ∧ w'.cell? ⟨w3.heap.size, 2, none⟩ = some (.int .i64 s.now))
        (exact ⟨q0, q1, q2⟩)
        (first
          | (go_at_call 15; refine (HS.out.2.1 _ (by repeat (first | assumption | exact Fr.refl _ _ | apply Fr.drew | apply Fr.drewN)) _ _ _ _).mono ?_; rintro e5 w5 ⟨A5, c5, rfl, hc5, hr5, hf5⟩
             have g5 : Fr No W w5 := Fr.trans (by repeat (first | assumption | exact Fr.refl _ _ | apply Fr.drew | apply Fr.drewN)) (hf5.mono fun _ _ f => f.elim)
             have hx2 := Lib.hid (And.intro ((hx1.out.fr0 (by repeat (first | assumption | exact Fr.refl _ _ | apply Fr.drew | apply Fr.drewN))).fr0 hf5) hr5)
             have q0 := g5.cell a0 (fun f => f)
             have q1 := g5.cell a1 (fun f => f)
             have q2 := g5.cell a2 (fun f => f)
             clear hf5 hr5 hc5)
          | (go_at_call 14; refine (items_same hx2.out.1 hx2.out.2 (HS.out.2.2.2 _ _ _ _) (by repeat (first | assumption | exact Fr.refl _ _ | apply Fr.drew | apply Fr.drewN))).mono ?_; rintro e6 w6 ⟨rfl, hf6⟩
             have g6 : Fr No W w6 := Fr.trans (by repeat (first | assumption | exact Fr.refl _ _ | apply Fr.drew | apply Fr.drewN)) (hf6.mono fun _ _ f => f.elim)
             have q0 := g6.cell a0 (fun f => f)
             have q1 := g6.cell a1 (fun f => f)
             have q2 := g6.cell a2 (fun f => f)
             clear hf6)
          | (go_at_call 13; refine (HS.out.1 _ (by repeat (first | assumption | exact Fr.refl _ _ | apply Fr.drew | apply Fr.drewN)) _ _ _ _).mono ?_; rintro e7 wS ⟨A7, c7, rfl, ho7, hf7⟩
             have gS : Fr No W wS := Fr.trans (by repeat (first | assumption | exact Fr.refl _ _ | apply Fr.drew | apply Fr.drewN)) (hf7.mono fun _ _ f => f.elim)
             have hx1 := Lib.hid ho7.rd.2.2
             have q0 := gS.cell a0 (fun f => f)
             have q1 := gS.cell a1 (fun f => f)
             have q2 := gS.cell a2 (fun f => f)
             clear hf7 ho7))
      all_goals
        go_wp2
        go_ret
        exact ⟨rfl, HS.out.2.2.1.trans (Fr.mono (F := No) (by repeat (first | assumption | exact Fr.refl _ _ | apply Fr.drew | apply Fr.drewN)) fun _ _ f => f.elim)⟩
  · by_cases hlb : lotsB ls = true
    · rw [hlb] at hlots
      have H := Lib.hid hlots
      have hc2 : 20 < (lo.size : Int) ∨ 20 < (hi.size : Int) := by
        rcases Nat.lt_or_ge 20 lo.size with h1 | h1
        · exact .inl (by omega)
        · rcases Nat.lt_or_ge 20 hi.size with h2 | h2
          · exact .inr (by omega)
          · exact absurd ⟨hlb, by omega, by omega⟩ hc
      have hone := Lib.hid law_one
      clear hlots hc hlb h
      go_enter Try.func3, Try.ntmps3
      rcases hc2 with hc2 | hc2
      all_goals
        go_wp2_with fail
        refine (hone.out w).mono ?_
        rintro e1 w1 ⟨rfl, hf1⟩
        have HF1 := Lib.hid hf1
        clear hf1
        go_wp2_with fail
        refine (H.out _ HF1.out).mono ?_
        rintro e2 w2 ⟨rfl, hf2⟩
        have HF2 := Lib.hid (HF1.out.trans (hf2.mono fun _ _ f => f.elim))
        clear hf2 HF1
        go_wp2_with fail
        all_goals
          refine (hone.out _).mono ?_
          rintro e3 w3 ⟨rfl, hf3⟩
          have HF3 := Lib.hid (HF2.out.trans (hf3.mono fun _ _ f => f.elim))
          clear hf3 HF2
          go_wp2_with fail
          go_ret
          exact ⟨rfl, HF3.out⟩
    · have hlb : lotsB ls = false := by simpa using hlb
      rw [hlb] at hlots
      have H := Lib.hid hlots
      have hone := Lib.hid law_one
      clear hlots hc hlb h
      go_enter Try.func3, Try.ntmps3
      go_wp2_with fail
      refine (hone.out w).mono ?_
      rintro e1 w1 ⟨rfl, hf1⟩
      have HF1 := Lib.hid hf1
      clear hf1
      go_wp2_with fail
      refine (H.out _ HF1.out).mono ?_
      rintro e2 w2 ⟨rfl, hf2⟩
      have HF2 := Lib.hid (HF1.out.trans (hf2.mono fun _ _ f => f.elim))
      clear hf2 HF1
      go_wp2_with fail
      refine (hone.out _).mono ?_
      rintro e3 w3 ⟨rfl, hf3⟩
      have HF3 := Lib.hid (HF2.out.trans (hf3.mono fun _ _ f => f.elim))
      clear hf3 HF2
      go_wp2_with fail
      go_ret
      exact ⟨rfl, HF3.out⟩
end Go.Proofs.Ytehlfcdipoognaa
