/- Laws of layer 13 (store): StoreTrims. -/
import Derived.Test.YtehlfcdipoognaaLaw6
import Derived.Test.YtehlfcdipoognaaPlain13
set_option linter.unusedVariables false
set_option linter.unusedSimpArgs false
namespace Go.Proofs.Ytehlfcdipoognaa
open Go.RowKit

theorem u8_of_wf {n : Int} (hw : (Lit.int .u8 n).wf = true) : ∃ q : UInt8, n = (q.toNat : Int) := by
  have h1 : 0 ≤ n ∧ n ≤ 255 := by
    unfold Lit.wf at hw
    simp [IntKind.wrap, IntKind.signed, IntKind.bits] at hw
    have a := hw.1
    have b := hw.2
    simp [IntKind.min, IntKind.max, IntKind.signed, IntKind.bits] at a b
    omega
  refine ⟨UInt8.ofNat n.toNat, ?_⟩
  rw [UInt8.toNat_ofNat']
  omega
theorem Two.trim {s : Sto} (h : Two s) (b : Int) : Two (s.trim b) := by
  intro k hk
  have e : (s.trim b).kc.map Prod.fst = s.kc.map Prod.fst := by show (s.kc.map _).map _ = _; rw [List.map_map]; rfl
  rw [e] at hk
  exact h k hk
theorem len_small {s : Sto} (h : s.Small 2560) : s.len ≤ 6553600 := by
  have := sum_le (s.kc.map fun p => p.2.l.length) 2560 (fun x hx => by
    obtain ⟨p, hp, rfl⟩ := List.mem_map.1 hx
    exact (h.chains p hp).1)
  rw [List.length_map] at this
  have h2 := h.keys
  have h3 : s.len = (s.kc.map fun p => p.2.l.length).sum := rfl
  have h4 : s.kc.length * 2560 ≤ 2560 * 2560 := Nat.mul_le_mul_right 2560 h2
  omega

set_option maxHeartbeats 4000000 in
set_option maxRecDepth 100000 in
theorem law_trims_ok {w : World} {F : Nat → Prop} {D : Option Addr} {e1 : Nat} {ls : List (List Actn)} (q : UInt8) (h : Rd (Ty.slice tAct) w F D ls) (hlb : lotsB ls = true) :
    Calls Try.prog 8 #[.slice D ls.length e1, .int .u8 (q.toNat : Int)] w fun e w' => e = .returned (.bool true) ∧ Fr No w w' := by
  have hlots := fun w' (f : Fr No w w') => law_lots (c := e1) (h.fr0 f)
  rw [hlb] at hlots
  have hst := fun w' (f : Fr No w w') => law_stored (e := e1) (h.fr0 f) hlb
  have hfine : (stAll Sto.empty ls).Fine 2560 := (stAll_fine empty_fine ls).mono (by have := (lotsB_all hlb).1; omega)
  have htwo : Two (stAll Sto.empty ls) := stAll_two (fun k hk => by cases hk) ls
  obtain ⟨s, hs⟩ : ∃ s, stAll Sto.empty ls = s := ⟨_, rfl⟩
  simp only [hs] at hst hfine htwo
  obtain ⟨hn0, hn1⟩ := nowi hfine (by omega)
  have H := Lib.hid (And.intro hlots (And.intro hst (And.intro hfine htwo)))
  have hq0 : (0 : Int) ≤ (q.toNat : Int) % 25 := by omega
  have hq1 : (q.toNat : Int) % 25 < 25 := by omega
  have hwq : IntKind.i64.wrap ((q.toNat : Int) % 25) = (q.toNat : Int) % 25 := IntWalk.i64_in _ (by omega)
  clear hlots hst hfine hlb hs h htwo
  go_enter Try.func8, Try.ntmps8
  go_wp2_with fail
  refine (law_one w).mono ?_
  rintro e1 w1 ⟨rfl, hf1⟩
  have HF1 := Lib.hid hf1
  clear hf1
  go_wp2_with fail
  refine (H.out.1 _ HF1.out).mono ?_
  rintro e2 w2 ⟨rfl, hf2⟩
  have HF2 := Lib.hid (HF1.out.trans (hf2.mono fun _ _ f => f.elim))
  clear hf2 HF1
  go_wp2_with fail
  refine (H.out.2.1 _ HF2.out).mono ?_
  rintro e3 w3 ⟨sb, A, c, B, d, rfl, hsd, hf3⟩
  obtain ⟨W, hW⟩ : ∃ W, W = w3.alloc (.cells #[.slice A s.kc.length c, .slice B s.kc.length d, .int .i64 s.now] 29) := ⟨_, rfl⟩
  have hfW : Fr No w3 W := by rw [hW]; exact (Fr.refl No w3).alloc _
  have hbW : W.heap[w3.heap.size]? = some (.cells #[.slice A s.kc.length c, .slice B s.kc.length d, .int .i64 s.now] 29 (0, 0)) := by rw [hW]; exact heap_alloc_new w3 _
  have hM := hsd.made W w3.heap.size hfW (Nat.le_refl _) hbW
  obtain ⟨FS, hS⟩ := hM.store
  have hlen := store_len hS H.out.2.2.1.small (by omega)
  have HM := Lib.hid (And.intro hlen hM)
  clear hlen hM hS hbW hfW hf3 hsd
  go_wp2_with fail
  rw [← hW]
  clear hW
  refine HM.out.1.mono ?_
  rintro e4 w4 ⟨rfl, hf4⟩
  have hM4 := HM.out.2.fr0 hf4
  have H2 := Lib.hid HF2.out
  have HT := Lib.hid (hM4.trim ((q.toNat : Int) % 25) (fun i f => f.elim) H.out.2.2.1.small (by omega))
  clear hf4 hM4
  go_wp2_with fail
  refine HT.out.mono ?_
  obtain ⟨low, hlow⟩ : ∃ low, (q.toNat : Int) % 25 = low := ⟨_, rfl⟩
  rw [hlow] at hq0 hq1 hwq ⊢
  rintro e5 w5 ⟨rfl, hM5, _⟩
  have hwr : Fr No w w5 := HF2.out.trans (hM5.fr.mono fun _ _ f => f.elim)
  obtain ⟨FS5, hS5⟩ := hM5.store
  obtain ⟨A9, c9, B9, d9, hblk, FM, hV⟩ := hM5.blk
  have hfine := H.out.2.2.1
  have hfine2 := hfine.trim low
  have hscan := fun w' (f : Fr No w5 w') a => store_scan (hS5.fr0 f) hfine2.small (by omega) a ⟨#[]⟩ ⟨#[]⟩ 1000
  have hrscan := fun w' (f : Fr No w5 w') a => ref_scan a ⟨#[]⟩ ⟨#[]⟩ 1000 (hV.fr0 f) hfine (by omega)
  have heq : ∀ a, low ≤ a → (s.trim low).scan a ⟨#[]⟩ ⟨#[]⟩ 1000 = s.scan a ⟨#[]⟩ ⟨#[]⟩ 1000 := fun a ha => trim_scan s ha _ _ _
  have hks := fun a => scan_ksz hfine.small a ⟨#[]⟩ ⟨#[]⟩ 1000
  have hlen2 := fun w' (f : Fr No w5 w') => store_len (hS5.fr0 f) hfine2.small (by omega)
  have b0 := blk_cell hblk 0
  have b1 := blk_cell hblk 1
  have b2 := blk_cell hblk 2
  simp at b0 b1 b2
  have hl1 := trim_len s low
  have hl2 := len_small hfine.small
  have hwl : IntKind.i64.wrap ((s.len : Int) - (s.cut low : Int)) = ((s.trim low).len : Int) := by rw [IntWalk.i64_in _ (by omega)]; omega
  have HS := Lib.hid (And.intro hscan (And.intro hrscan (And.intro heq (And.intro hks (And.intro hwr (And.intro hlen2 (And.intro hM5 (And.intro hfine2 (H.out.2.2.2.trim low)))))))))
  clear hscan hrscan heq hks hwr hlen2 hM5 hfine2 hS5 hV hblk hfine hl1 hl2 HF2 HT HM
  obtain ⟨lt, hlt⟩ : ∃ lt, (s.trim low).len = lt := ⟨_, rfl⟩
  rw [hlt] at hwl HS
  clear hlt
  go_wp2_with fail
  go_loopw [10] (fun v wr => ∃ a : Int, v = .int .i64 a ∧ low ≤ a ∧ Hid (Fr No w5 wr)) (fun v _ => (s.now + 2 - intOf v).toNat)
  case atStart => exact ⟨low, rfl, by omega, Fr.refl _ _⟩
  case round =>
    obtain ⟨a, rfl, ha0, hf⟩ := hrel
    have c0 := hf.out.cell b0 (fun f => f)
    have c1 := hf.out.cell b1 (fun f => f)
    have c2 := hf.out.cell b2 (fun f => f)
    have hw1 : IntKind.i64.wrap (s.now + 1) = s.now + 1 := IntWalk.i64_in _ (by omega)
    by_cases hle : a ≤ s.now + 1
    · have gS := hf.out
      have hwa : IntKind.i64.wrap (a + 1) = a + 1 := IntWalk.i64_in _ (by omega)
      go_wp2_with fail
      go_region_held3 (fun w' => w'.cell? ⟨w3.heap.size, 0, none⟩ = some (.slice A9 s.kc.length c9) ∧ w'.cell? ⟨w3.heap.size, 1, none⟩ = some (.slice B9 s.kc.length d9) ∧ w'.cell? ⟨w3.heap.size, 2, none⟩ = some (.int .i64 s.now))
        (first
          | exact ⟨c0, c1, c2⟩
          | exact ⟨q0, q1, q2⟩)
        (first
          | (go_at_call 15; refine (HS.out.2.1 _ (by repeat (first | assumption | exact Fr.refl _ _ | apply Fr.drew | apply Fr.drewN)) a).mono ?_; rintro e5 w6 ⟨A5, c5, rfl, hc5, hr5, hf5⟩
             have g5 : Fr No w5 w6 := Fr.trans (by repeat (first | assumption | exact Fr.refl _ _ | apply Fr.drew | apply Fr.drewN)) (hf5.mono fun _ _ f => f.elim)
             have hx2 := Lib.hid (And.intro ((hx1.out.fr0 (by repeat (first | assumption | exact Fr.refl _ _ | apply Fr.drew | apply Fr.drewN))).fr0 hf5) hr5)
             have q0 := g5.cell b0 (fun f => f)
             have q1 := g5.cell b1 (fun f => f)
             have q2 := g5.cell b2 (fun f => f)
             clear hf5 hr5 hc5)
          | (go_at_call 14; refine (items_same hx2.out.1 hx2.out.2 (HS.out.2.2.2.1 a) (by repeat (first | assumption | exact Fr.refl _ _ | apply Fr.drew | apply Fr.drewN))).mono ?_; rintro e6 w7 ⟨rfl, hf6⟩
             have g6 : Fr No w5 w7 := Fr.trans (by repeat (first | assumption | exact Fr.refl _ _ | apply Fr.drew | apply Fr.drewN)) (hf6.mono fun _ _ f => f.elim)
             have q0 := g6.cell b0 (fun f => f)
             have q1 := g6.cell b1 (fun f => f)
             have q2 := g6.cell b2 (fun f => f)
             clear hf6)
          | (go_at_call 13; refine (HS.out.1 _ (by repeat (first | assumption | exact Fr.refl _ _ | apply Fr.drew | apply Fr.drewN)) a).mono ?_; rw [HS.out.2.2.1 a ha0]; rintro e7 wS ⟨A7, c7, rfl, ho7, hf7⟩
             have gS : Fr No w5 wS := Fr.trans (by repeat (first | assumption | exact Fr.refl _ _ | apply Fr.drew | apply Fr.drewN)) (hf7.mono fun _ _ f => f.elim)
             have hx1 := Lib.hid ho7.rd.2.2
             have q0 := gS.cell b0 (fun f => f)
             have q1 := gS.cell b1 (fun f => f)
             have q2 := gS.cell b2 (fun f => f)
             clear hf7 ho7))
      all_goals
        go_wp2
        go_roundw
        case rel => exact ⟨a + 1, by go_num, by omega, by show Fr No w5 _; exact (by repeat (first | assumption | exact Fr.refl _ _ | apply Fr.drew | apply Fr.drewN))⟩
        case measure => simp [intOf]; omega
    · have hfo := hf.out
      go_wp2_with fail
      refine (HS.out.2.2.2.2.2.1 _ hfo).mono ?_
      rintro e6 w6 ⟨rfl, hf6⟩
      have hf56 : Fr No w5 w6 := hfo.trans (hf6.mono fun _ _ f => f.elim)
      have hM6 := HS.out.2.2.2.2.2.2.1.fr0 hf56
      have HT6 := Lib.hid (hM6.trim low (fun i f => f.elim) HS.out.2.2.2.2.2.2.2.1.small (by omega))
      clear hf56 hf6 hfo hM6
      go_wp2_with fail
      refine HT6.out.mono ?_
      rw [trim_cut0]
      rintro e7 w7 ⟨rfl, hM7, _⟩
      obtain ⟨FS7, hS7⟩ := hM7.store
      have hlast := store_last hS7 ⟨#[107]⟩
      rw [two_last HS.out.2.2.2.2.2.2.2.2 low (show (⟨#[107]⟩ : ByteArray).size ≠ 2 by decide)] at hlast
      have HL := Lib.hid (And.intro hlast (hM7.fr))
      clear hlast hS7 hM7
      go_wp2_with fail
      refine HL.out.1.mono ?_
      rintro e8 w8 ⟨rfl, rfl⟩
      go_wp2
      go_ret
      exact ⟨rfl, H2.out.trans (HL.out.2.mono fun _ _ f => f.elim)⟩

set_option maxHeartbeats 2000000 in
set_option maxRecDepth 100000 in
theorem law_trims {w : World} {F : Nat → Prop} {D : Option Addr} {e1 : Nat} {ls : List (List Actn)} (b : Int) (hb : (Lit.int .u8 b).wf = true) (h : Rd (Ty.slice tAct) w F D ls) :
    Calls Try.prog 8 #[.slice D ls.length e1, .int .u8 b] w fun e w' => e = .returned (.bool true) ∧ Fr No w w' := by
  obtain ⟨q, rfl⟩ := u8_of_wf hb
  have hlots := fun w' (f : Fr No w w') => law_lots (c := e1) (h.fr0 f)
  have hone := Lib.hid law_one
  cases hlb : lotsB ls with
  | true => exact law_trims_ok q h hlb
  | false =>
    · rw [hlb] at hlots
      have H := Lib.hid hlots
      clear hlots hlb h hb
      go_enter Try.func8, Try.ntmps8
      go_wp2_with fail
      refine (hone.out w).mono ?_
      rintro e1 w1 ⟨rfl, hf1⟩
      have HF1 := Lib.hid (hf1)
      clear hf1
      go_wp2_with fail
      refine (H.out _ HF1.out).mono ?_
      rintro e2 w2 ⟨rfl, hf2⟩
      have HF2 := Lib.hid (HF1.out.trans (hf2.mono fun _ _ f => f.elim))
      clear hf2
      go_wp2_with fail
      refine (hone.out w2).mono ?_
      rintro e3 w3 ⟨rfl, hf3⟩
      have HF3 := Lib.hid (HF2.out.trans (hf3.mono fun _ _ f => f.elim))
      clear hf3
      go_wp2_with fail
      go_ret
      exact ⟨rfl, HF3.out⟩
end Go.Proofs.Ytehlfcdipoognaa
