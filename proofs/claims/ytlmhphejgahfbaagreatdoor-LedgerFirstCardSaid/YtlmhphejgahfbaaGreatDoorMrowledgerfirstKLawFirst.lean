/- Layer 15: LedgerFirst: of two that write one key just the first one may commit. -/
import Derived.Test.YtlmhphejgahfbaaGreatDoorMrowledgerfirstKOnce
import Derived.Test.YtlmhphejgahfbaaGreatDoorMrowledgerfirst33
import Derived.Test.YtlmhphejgahfbaaGreatDoorMrowledgerfirst35
import Derived.Test.YtlmhphejgahfbaaGreatDoorMrowledgerfirst37
import Derived.Test.YtlmhphejgahfbaaGreatDoorMrowledgerfirst37
set_option linter.unusedVariables false
set_option linter.unusedSimpArgs false
namespace Go.Proofs.YtlmhphejgahfbaaGreatDoor
open Go.RowKit

theorem small_few {l : List Frm} (h : smallF l = true) : l.length ≤ 5 ∧ ∀ f ∈ l, f.1.length ≤ 9 := by
  unfold smallF at h
  rw [Bool.and_eq_true] at h
  exact ⟨of_decide_eq_true h.2, fun f hf => by simpa using List.all_eq_true.1 h.1 f hf⟩
set_option maxHeartbeats 8000000 in
set_option maxRecDepth 100000 in
theorem law_first {w : World} {R1 R2 R3 : Nat → Prop} {A1 A2 A3 : Option Addr} {c1 c2 c3 : Nat} {l : List Frm} {t : UInt8} {a b : Bs} (together order : Bool) (h1 : Rd tFrm w R1 A1 l) (hc1 : l.length ≤ c1) (h2 : Rd Ty.u8 w R2 A2 a) (hc2 : a.length ≤ c2) (h3 : Rd Ty.u8 w R3 A3 b) (hc3 : b.length ≤ c3) (hk : KAt w) :
    Calls Tryz.prog 4 #[.slice A1 l.length c1, .int .u8 (t.toNat : Int), .slice A2 a.length c2, .slice A3 b.length c3, .bool together, .bool order] w fun e w' => e = .returned (.bool true) ∧ Fr No w w' := by
  have hO := fun (w1 : World) (f : Fr No w w1) => once_ok (hk.fr0 f)
  have hsm := fun (w1 : World) (f : Fr No w w1) => small_ok (c := c1) (h1.fr0 f) rfl
  have ha63 : (a.length : Int) ≤ 9223372036854775807 := by have := h2.1; omega
  have hb63 : (b.length : Int) ≤ 9223372036854775807 := by have := h3.1; omega
  have HO := Lib.hid (And.intro hO (And.intro hsm (Fr.refl No w)))
  have HA := Lib.hid (And.intro h1 (And.intro hc1 (And.intro h2 (And.intro hc2 (And.intro h3 (And.intro hc3 hk))))))
  clear hO hsm h1 hc1 h2 hc2 h3 hc3 hk
  obtain ⟨n1, hn1⟩ : ∃ n, l.length = n := ⟨_, rfl⟩
  obtain ⟨n2, hn2⟩ : ∃ n, a.length = n := ⟨_, rfl⟩
  obtain ⟨n3, hn3⟩ : ∃ n, b.length = n := ⟨_, rfl⟩
  have HL := Lib.hid (And.intro hn1 (And.intro hn2 hn3))
  rw [hn1] at HO
  rw [hn2] at ha63
  rw [hn3] at hb63
  rw [hn1, hn2, hn3]
  clear hn1 hn2 hn3
  by_cases ha9 : 9 < n2
  · have ha9i : (9 : Int) < (n2 : Int) := by omega
    clear ha9
    go_enter Tryz.func4, Tryz.ntmps4
    go_wp2_with fail
    refine (HO.out.1 _ HO.out.2.2).mono ?_
    rintro e w1 ⟨rfl, hf1⟩
    have H1 := Lib.hid hf1
    clear hf1
    go_wp2_with fail
    refine (HO.out.1 _ H1.out).mono ?_
    rintro e w2 ⟨rfl, hf2⟩
    have H2 := Lib.hid (H1.out.next hf2 (fun _ _ f => f.elim))
    clear hf2
    go_wp2_with fail
    go_ret
    exact ⟨rfl, H2.out⟩
  have ha9i : (n2 : Int) ≤ 9 := by omega
  by_cases hb9 : 9 < n3
  · have hb9i : (9 : Int) < (n3 : Int) := by omega
    clear ha9 hb9
    go_enter Tryz.func4, Tryz.ntmps4
    go_wp2_with fail
    refine (HO.out.1 _ HO.out.2.2).mono ?_
    rintro e w1 ⟨rfl, hf1⟩
    have H1 := Lib.hid hf1
    clear hf1
    go_wp2_with fail
    refine (HO.out.1 _ H1.out).mono ?_
    rintro e w2 ⟨rfl, hf2⟩
    have H2 := Lib.hid (H1.out.next hf2 (fun _ _ f => f.elim))
    clear hf2
    go_wp2_with fail
    go_ret
    exact ⟨rfl, H2.out⟩
  have hb9i : (n3 : Int) ≤ 9 := by omega
  clear ha9 hb9
  by_cases hs : smallF l = false
  · rw [hs] at HO
    clear hs
    go_enter Tryz.func4, Tryz.ntmps4
    go_wp2_with fail
    refine (HO.out.1 _ HO.out.2.2).mono ?_
    rintro e w1 ⟨rfl, hf1⟩
    have H1 := Lib.hid hf1
    clear hf1
    go_wp2_with fail
    refine (HO.out.2.1 _ H1.out).mono ?_
    rintro e w2 ⟨rfl, hf2⟩
    have H2 := Lib.hid (H1.out.next hf2 (fun _ _ f => f.elim))
    clear hf2
    go_wp2_with fail
    refine (HO.out.1 _ H2.out).mono ?_
    rintro e w3 ⟨rfl, hf3⟩
    have H3 := Lib.hid (H2.out.next hf3 (fun _ _ f => f.elim))
    clear hf3
    go_wp2_with fail
    go_ret
    exact ⟨rfl, H3.out⟩
  have hs' : smallF l = true := by simpa using hs
  rw [hs'] at HO
  have hT := fun (w1 : World) (f : Fr No w w1) => tables_ok (c := c1) (HA.out.1.fr0 f) HA.out.2.1 (small_few hs').1 (small_few hs').2
  have hTok := tabsF_ok l
  have hT1 := hTok.some
  have hT4 := hTok.most
  rw [HL.out.1] at hT
  obtain ⟨T, hTe⟩ : ∃ T, tabsF l = T := ⟨_, rfl⟩
  rw [hTe] at hT hTok hT1 hT4
  obtain ⟨nT, hnT⟩ : ∃ nT, T.length = nT := ⟨_, rfl⟩
  rw [hnT] at hT hT1 hT4
  have hnT1 : (1 : Int) ≤ (nT : Int) := by omega
  have hnT4 : (nT : Int) ≤ 4 := by omega
  have hnT0 : ¬ ((nT : Int) = 0) := by omega
  obtain ⟨k, hke⟩ : ∃ k, t.toNat % nT = k := ⟨_, rfl⟩
  have hkn : k < nT := by rw [← hke]; exact Nat.mod_lt _ (by omega)
  have hki : (k : Int) < (nT : Int) := by omega
  have hk0 : (0 : Int) ≤ (k : Int) := Int.natCast_nonneg _
  have ht0 : (0 : Int) ≤ (t.toNat : Int) := Int.natCast_nonneg _
  have ht256 : (t.toNat : Int) < 256 := by have := t.toNat_lt; omega
  have hkm : (t.toNat : Int).tmod (nT : Int) = (k : Int) := by rw [Int.tmod_eq_emod_of_nonneg (by omega), ← hke]; rfl
  have HT := Lib.hid (And.intro hT (And.intro hTok (And.intro hnT hkn)))
  clear hT hTok hT1 hT4 hnT hke hkn hs hs' hTe
  go_enter Tryz.func4, Tryz.ntmps4
  go_wp2_with fail
  refine (HO.out.1 _ HO.out.2.2).mono ?_
  rintro e w1 ⟨rfl, hf1⟩
  have H1 := Lib.hid hf1
  clear hf1
  go_wp2_with fail
  refine (HO.out.2.1 _ H1.out).mono ?_
  rintro e w2 ⟨rfl, hf2⟩
  have H2 := Lib.hid (H1.out.next hf2 (fun _ _ f => f.elim))
  clear hf2
  go_wp2_with fail
  refine (HT.out.1 _ H2.out).mono ?_
  rintro e w3 ⟨Ao, co, rfl, hO3, hf3⟩
  have hf03 : Fr No w w3 := H2.out.next hf3 (fun _ _ f => f.elim)
  have hc3 := hO3.rd.2.1
  have hR3 : Rd tTab w3 (fun i => w.heap.size ≤ i ∧ i < w3.heap.size) Ao T := hO3.rd.2.2.mono fun i hi hl => ⟨Nat.le_trans H2.out.size hi, hl⟩
  have hnew := ledS_new (c := co) (n := nT) hf03 hR3 (fun i hi => hi.1) HT.out.2.1 HT.out.2.2.1.symm hc3 HA.out.2.2.2.2.2.2
  have H3 := Lib.hid (And.intro hnew (And.intro hR3 (And.intro hf03 hc3)))
  clear hnew hR3 hf03 hc3 hO3 hf3
  go_wp2_with fail
  refine H3.out.1.mono ?_
  rintro e w4 ⟨lb, rfl, hS4, hf4⟩
  have hR4 := H3.out.2.1.fr0 hf4
  have hbeg := ledS_begin hS4 (Led.Ok.new HT.out.2.1 4) (by decide)
  rw [show (Led.new T).next + 1 = 1 from rfl] at hbeg
  have H4 := Lib.hid (And.intro hbeg hR4)
  clear hbeg hS4 hf4 hR4
  go_wp2_with fail
  refine H4.out.1.mono ?_
  rintro e w5 ⟨rfl, hS5, hf5⟩
  have hR5 := H4.out.2.fr hf5 (fun i hi e => e.2 hi.2)
  have hbeg := ledS_begin hS5 ((Led.Ok.new HT.out.2.1 4).begin_ (show (0 : Int) + 1 ≤ 4 by decide)) (by decide)
  rw [show (Led.new T).begin_.next + 1 = 2 from rfl] at hbeg
  have H5 := Lib.hid (And.intro hbeg hR5)
  clear hbeg hS5 hf5 hR5
  go_wp2_with fail
  refine H5.out.1.mono ?_
  rintro e w6 ⟨rfl, hS6, hf6⟩
  have hR6 := H5.out.2.fr hf6 (fun i hi e => e.2 hi.2)
  have hkT : k < T.length := by rw [HT.out.2.2.1]; exact HT.out.2.2.2
  obtain ⟨ad, RR, cc, rfl, y0, y1, y2, hcc, hcol⟩ := tab_at hR6 hkT
  have hTk := HT.out.2.1.each T[k] (List.getElem_mem hkT)
  obtain ⟨ksz, hksz⟩ : ∃ ksz : Nat, T[k].2.2 = (ksz : Int) := Int.eq_ofNat_of_zero_le (show 0 ≤ T[k].2.2 by have := hTk.keys; omega)
  have hrowA := fit_row HT.out.2.1 hkT hksz a
  have hrowB := fit_row HT.out.2.1 hkT hksz b
  have hshA := fit_short HT.out.2.1 hkT hksz a
  have hshB := fit_short HT.out.2.1 hkT hksz b
  have hfitA := fun (w1 : World) (f : Fr No w6 w1) => fit_ok (nm := T[k].1) (ks := (ksz : Int)) (cr := cc) (c := c2) (n := T[k].2.1.length) (hcol.fr0 f) ((HA.out.2.2.1.fr0 hS6.fr).fr0 f) rfl rfl (Nat.le_refl _) hTk.most
  have hfitB := fun (w1 : World) (f : Fr No w6 w1) => fit_ok (nm := T[k].1) (ks := (ksz : Int)) (cr := cc) (c := c3) (n := T[k].2.1.length) (hcol.fr0 f) ((HA.out.2.2.2.2.1.fr0 hS6.fr).fr0 f) rfl rfl (Nat.le_refl _) hTk.most
  rw [hksz] at y2
  rw [HL.out.2.1] at hfitA
  rw [HL.out.2.2] at hfitB
  have hksn := hTk.fit
  have hm8 := hTk.most
  have hksz2 := hksz
  rw [hksz] at hksn
  obtain ⟨tk, htk⟩ : ∃ tk, T[k] = tk := ⟨_, rfl⟩
  rw [htk] at y0 y1 hfitA hfitB hrowA hrowB hshA hshB hcol hcc hksn hm8
  obtain ⟨nm, cols, kz⟩ := tk
  dsimp only at y0 y1 hfitA hfitB hrowA hrowB hshA hshB hcol hcc hksn hm8
  obtain ⟨nc, hnc⟩ : ∃ nc, cols.length = nc := ⟨_, rfl⟩
  rw [hnc] at y1 hfitA hfitB hrowA hrowB hshA hshB hcc hksn hm8
  have H6 := Lib.hid (And.intro hS6 (And.intro hR6 (And.intro hfitA hfitB)))
  have HR := Lib.hid (And.intro hrowA (And.intro hrowB (And.intro hshA (And.intro hshB (And.intro hnc hksz2)))))
  have HF := Lib.hid (Fr.refl No w6)
  clear hS6 hf6 hR6 hfitA hfitB hrowA hrowB hshA hshB hcol htk hnc hTk hksz hksz2
  go_wp2_with fail
  refine wp_region_tail 25 (fun w' => w'.cell? (ad.add (k * 3)) = some (.string nm) ∧ w'.cell? ⟨(ad.add (k * 3)).block, (ad.add (k * 3)).off + 1, none⟩ = some (.slice RR nc cc) ∧ w'.cell? ⟨(ad.add (k * 3)).block, (ad.add (k * 3)).off + 2, none⟩ = some (.int .i64 (ksz : Int))) (by kernel_rfl) (by exact ⟨y0, y1, y2⟩) (fun hHeld => ?_)
  refine WalkTail.take (i := 0) (v := ?va0) rfl (by kernel_rfl) (fun _ _ _ h => h) (Or.inl ⟨by rfl, ?hya0⟩) (by assumption) ?_
  case hya0 => (intro w hSw; (try dsimp only at hSw); go_simp; try with_reducible rfl)
  (try simp only [Act.put, List.setIfInBounds_toArray, List.set_cons_zero, List.set_cons_succ])
  refine WalkTail.take (i := 1) (v := ?va1) rfl (by kernel_rfl) (fun _ _ _ h => h) (Or.inl ⟨by rfl, ?hya1⟩) (by assumption) ?_
  case hya1 => (intro w hSw; (try dsimp only at hSw); go_simp; try with_reducible rfl)
  (try simp only [Act.put, List.setIfInBounds_toArray, List.set_cons_zero, List.set_cons_succ])
  refine WalkTail.take (i := 2) (v := ?va2) rfl (by kernel_rfl) (fun _ _ _ h => h) (Or.inl ⟨by rfl, ?hya2⟩) (by assumption) ?_
  case hya2 => (intro w hSw; (try dsimp only at hSw); go_simp; try with_reducible rfl)
  (try simp only [Act.put, List.setIfInBounds_toArray, List.set_cons_zero, List.set_cons_succ])
  refine WalkTail.take (i := 3) (v := ?va3) rfl (by kernel_rfl) (fun _ _ _ h => h) (Or.inl ⟨by rfl, ?hya3⟩) (by assumption) ?_
  case hya3 => (intro w hSw; (try dsimp only at hSw); go_simp; try with_reducible rfl)
  (try simp only [Act.put, List.setIfInBounds_toArray, List.set_cons_zero, List.set_cons_succ])
  refine WalkTail.take (i := 4) (v := ?va4) rfl (by kernel_rfl) (fun _ _ _ h => h) (Or.inl ⟨by rfl, ?hya4⟩) (by assumption) ?_
  case hya4 => (intro w hSw; (try dsimp only at hSw); go_simp; try with_reducible rfl)
  (try simp only [Act.put, List.setIfInBounds_toArray, List.set_cons_zero, List.set_cons_succ])
  refine WalkTail.take (i := 5) (v := ?va5) rfl (by kernel_rfl) (fun _ _ _ h => h) (Or.inl ⟨by rfl, ?hya5⟩) (by assumption) ?_
  case hya5 => (intro w hSw; (try dsimp only at hSw); go_simp; try with_reducible rfl)
  (try simp only [Act.put, List.setIfInBounds_toArray, List.set_cons_zero, List.set_cons_succ])
  refine WalkTail.take (i := 6) (v := ?va6) rfl (by kernel_rfl) (fun _ _ _ h => h) (Or.inl ⟨by rfl, ?hya6⟩) (by assumption) ?_
  case hya6 => (intro w hSw; (try dsimp only at hSw); go_simp; try with_reducible rfl)
  (try simp only [Act.put, List.setIfInBounds_toArray, List.set_cons_zero, List.set_cons_succ])
  refine WalkTail.take (i := 7) (v := ?va7) rfl (by kernel_rfl) (fun _ _ _ h => h) (Or.inl ⟨by rfl, ?hya7⟩) (by assumption) ?_
  case hya7 => (intro w hSw; (try dsimp only at hSw); go_simp; try with_reducible rfl)
  (try simp only [Act.put, List.setIfInBounds_toArray, List.set_cons_zero, List.set_cons_succ])
  refine WalkTail.take (i := 8) (v := ?va8) rfl (by kernel_rfl) (fun _ _ _ h => h) (Or.inl ⟨by rfl, ?hya8⟩) (by assumption) ?_
  case hya8 => (intro w hSw; (try dsimp only at hSw); go_simp; try with_reducible rfl)
  (try simp only [Act.put, List.setIfInBounds_toArray, List.set_cons_zero, List.set_cons_succ])
  refine WalkTail.take (i := 9) (v := ?va9) rfl (by kernel_rfl) (fun _ _ _ h => h) (Or.inl ⟨by rfl, ?hya9⟩) (by assumption) ?_
  case hya9 => (intro w hSw; (try dsimp only at hSw); go_simp; try with_reducible rfl)
  (try simp only [Act.put, List.setIfInBounds_toArray, List.set_cons_zero, List.set_cons_succ])
  refine WalkTail.take (i := 10) (v := ?va10) rfl (by kernel_rfl) (fun _ _ _ h => h) (Or.inl ⟨by rfl, ?hya10⟩) (by assumption) ?_
  case hya10 => (intro w hSw; (try dsimp only at hSw); go_simp; try with_reducible rfl)
  (try simp only [Act.put, List.setIfInBounds_toArray, List.set_cons_zero, List.set_cons_succ])
  refine WalkTail.take (i := 12) (v := ?va12) rfl (by kernel_rfl) (fun _ _ _ h => h) (Or.inl ⟨by rfl, ?hya12⟩) (by assumption) ?_
  case hya12 => (intro w hSw; (try dsimp only at hSw); go_simp; try with_reducible rfl)
  (try simp only [Act.put, List.setIfInBounds_toArray, List.set_cons_zero, List.set_cons_succ])
  refine WalkTail.take (i := 13) (v := ?va13) rfl (by kernel_rfl) (fun _ _ _ h => h) (Or.inl ⟨by rfl, ?hya13⟩) (by assumption) ?_
  case hya13 => (intro w hSw; (try dsimp only at hSw); go_simp; try with_reducible rfl)
  (try simp only [Act.put, List.setIfInBounds_toArray, List.set_cons_zero, List.set_cons_succ])
  refine WalkTail.take (i := 14) (v := ?va14) rfl (by kernel_rfl) (fun _ _ _ h => h) (Or.inl ⟨by rfl, ?hya14⟩) (by assumption) ?_
  case hya14 => (intro w hSw; (try dsimp only at hSw); go_simp; try with_reducible rfl)
  (try simp only [Act.put, List.setIfInBounds_toArray, List.set_cons_zero, List.set_cons_succ])
  refine WalkTail.take (i := 15) (v := ?va15) rfl (by kernel_rfl) (fun _ _ _ h => h) (Or.inl ⟨by rfl, ?hya15⟩) (by assumption) ?_
  case hya15 => (intro w hSw; (try dsimp only at hSw); go_simp; try with_reducible rfl)
  (try simp only [Act.put, List.setIfInBounds_toArray, List.set_cons_zero, List.set_cons_succ])
  refine WalkTail.take (i := 16) (v := ?va16) rfl (by kernel_rfl) (fun _ _ _ h => h) (Or.inl ⟨by rfl, ?hya16⟩) (by assumption) ?_
  case hya16 => (intro w hSw; (try dsimp only at hSw); go_simp; try with_reducible rfl)
  (try simp only [Act.put, List.setIfInBounds_toArray, List.set_cons_zero, List.set_cons_succ])
  refine WalkTail.take (i := 17) (v := ?va17) rfl (by kernel_rfl) (fun _ _ _ h => h) (Or.inl ⟨by rfl, ?hya17⟩) (by assumption) ?_
  case hya17 => (intro w hSw; (try dsimp only at hSw); go_simp; try with_reducible rfl)
  (try simp only [Act.put, List.setIfInBounds_toArray, List.set_cons_zero, List.set_cons_succ])
  refine WalkTail.take (i := 18) (v := ?va18) rfl (by kernel_rfl) (fun _ _ _ h => h) (Or.inl ⟨by rfl, ?hya18⟩) (by assumption) ?_
  case hya18 => (intro w hSw; (try dsimp only at hSw); go_simp; try with_reducible rfl)
  (try simp only [Act.put, List.setIfInBounds_toArray, List.set_cons_zero, List.set_cons_succ])
  refine WalkTail.take (i := 19) (v := ?va19) rfl (by kernel_rfl) (fun _ _ _ h => h) (Or.inl ⟨by rfl, ?hya19⟩) (by assumption) ?_
  case hya19 => (intro w hSw; (try dsimp only at hSw); go_simp; try with_reducible rfl)
  (try simp only [Act.put, List.setIfInBounds_toArray, List.set_cons_zero, List.set_cons_succ])
  refine WalkTail.take (i := 20) (v := ?va20) rfl (by kernel_rfl) (fun _ _ _ h => h) (Or.inl ⟨by rfl, ?hya20⟩) (by assumption) ?_
  case hya20 => (intro w hSw; (try dsimp only at hSw); go_simp; try with_reducible rfl)
  (try simp only [Act.put, List.setIfInBounds_toArray, List.set_cons_zero, List.set_cons_succ])
  refine WalkTail.take (i := 21) (v := ?va21) rfl (by kernel_rfl) (fun _ _ _ h => h) (Or.inl ⟨by rfl, ?hya21⟩) (by assumption) ?_
  case hya21 => (intro w hSw; (try dsimp only at hSw); go_simp; try with_reducible rfl)
  (try simp only [Act.put, List.setIfInBounds_toArray, List.set_cons_zero, List.set_cons_succ])
  refine WalkTail.take (i := 22) (v := ?va22) rfl (by kernel_rfl) (fun _ _ _ h => h) (Or.inl ⟨by rfl, ?hya22⟩) (by assumption) ?_
  case hya22 => (intro w hSw; (try dsimp only at hSw); go_simp; try with_reducible rfl)
  (try simp only [Act.put, List.setIfInBounds_toArray, List.set_cons_zero, List.set_cons_succ])
  refine WalkTail.one (i := 11) rfl (by kernel_rfl) (by decide) (fun K hK => ?_)
  go_simp
  go_at_call 22
  refine (H6.out.2.2.1 _ (by repeat (first | exact HF.out | apply Fr.drew | apply Fr.drewN))).mono ?_
  rintro e7 w7 ⟨A7, c7, rfl, hO7, hf7⟩
  have hg7 : Fr No w6 w7 := Fr.next (G := No) (by repeat (first | exact HF.out | apply Fr.drew | apply Fr.drewN)) hf7 (fun _ _ f => f.elim)
  have y0 := hg7.cell y0 (fun f => f)
  have y1 := hg7.cell y1 (fun f => f)
  have y2 := hg7.cell y2 (fun f => f)
  have H7 := Lib.hid (And.intro hO7.rd.2.2 (And.intro hg7 hO7.rd.2.1))
  clear hO7 hf7 hg7
  go_wp2_with fail
  refine hK.out _ _ ?_ (fun hHeld => ?_)
  · exact ⟨y0, y1, y2⟩
  clear hK K
  (try simp only [Act.put, List.setIfInBounds_toArray, List.set_cons_zero, List.set_cons_succ])
  refine WalkTail.one (i := 23) rfl (by kernel_rfl) (by decide) (fun K hK => ?_)
  go_simp
  go_at_call 22
  refine (H6.out.2.2.2 _ (by repeat (first | exact H7.out.2.1 | apply Fr.drew | apply Fr.drewN))).mono ?_
  rintro e8 w8 ⟨A8, c8, rfl, hO8, hf8⟩
  have hg8 : Fr No w6 w8 := Fr.next (G := No) (by repeat (first | exact H7.out.2.1 | apply Fr.drew | apply Fr.drewN)) hf8 (fun _ _ f => f.elim)
  have hg78 : Fr No w7 w8 := Fr.next (G := No) (by repeat (first | exact Fr.refl No w7 | apply Fr.drew | apply Fr.drewN)) hf8 (fun _ _ f => f.elim)
  have y0 := hf8.cell y0 (fun f => f)
  have y1 := hf8.cell y1 (fun f => f)
  have y2 := hf8.cell y2 (fun f => f)
  have hR8 : Rd tVal w8 (fun i => w6.heap.size ≤ i ∧ i < w8.heap.size) A8 (fit cols b nc) := (hO8.rd.2.2).mono fun i hi hl => ⟨Nat.le_trans H7.out.2.1.size hi, hl⟩
  have hR7 : Rd tVal w8 (fun i => w6.heap.size ≤ i ∧ i < w8.heap.size) A7 (fit cols a nc) := (H7.out.1.fr0 hg78).mono fun i hi hl => ⟨hi, hl⟩
  have hS8 := H6.out.1.more hg8
  obtain ⟨KS, hKe⟩ : ∃ KS : Nat → Prop, (fun i => i < w3.heap.size ∨ (w6.heap.size ≤ i ∧ i < w8.heap.size)) = KS := ⟨_, rfl⟩
  have hK3 : ∀ i, i < w3.heap.size → KS i := fun i hi => by rw [← hKe]; exact .inl hi
  have hK6 : ∀ i, (w6.heap.size ≤ i ∧ i < w8.heap.size) → KS i := fun i hi => by rw [← hKe]; exact .inr hi
  rw [hKe] at hS8
  have hok2 : (Led.new T).begin_.begin_.Ok 4 := ((Led.Ok.new HT.out.2.1 4).begin_ (show (0 : Int) + 1 ≤ 4 by decide)).begin_ (show (0 : Int) + 1 + 1 ≤ 4 by decide)
  have hput := ledS_put (id := 1) (x := ⟨1, 0, []⟩) (t := k) (k := ksz) (n := nc) (c' := c7) hS8 hok2 rfl HR.out.1 hR7 (fit_len _ _ _).symm H7.out.2.2
  rw [show (wwrite ([] : List Wr) (rowW k ksz (fit cols a nc))).2 = 0 from rfl, show (wwrite ([] : List Wr) (rowW k ksz (fit cols a nc))).1 = [rowW k ksz (fit cols a nc)] from rfl] at hput
  have hok3 : ((Led.new T).begin_.begin_.setTx 1 [rowW k ksz (fit cols a nc)]).Ok 4 := hok2.setTx ⟨(show 1 ≤ 20 by decide), fun y hy => by obtain rfl : y = _ := List.mem_singleton.1 hy; exact HR.out.2.2.1⟩ (by simp [Rising])
  have H8 := Lib.hid (And.intro hput (And.intro hR7 (And.intro hR8 (And.intro (H6.out.2.1.fr0 hg8) (And.intro hO8.rd.2.1 (And.intro hK3 (And.intro hK6 hok3)))))))
  clear hput hR7 hR8 hO8 hf8 hg8 hg78 hKe hS8 hok2 hok3
  go_wp2_with fail
  refine hK.out _ _ ?_ (fun hHeld => ?_)
  · exact ⟨y0, y1, y2⟩
  clear hK K y0 y1 y2
  (try simp only [Act.put, List.setIfInBounds_toArray, List.set_cons_zero, List.set_cons_succ])
  refine WalkTail.take (i := 24) (v := ?v24) rfl (by kernel_rfl) (fun _ _ _ h => h) (Or.inl ⟨by rfl, ?hy24⟩) (by assumption) ?_
  case hy24 => (intro w hSw; (try dsimp only at hSw); go_simp; try with_reducible rfl)
  (try simp only [Act.put, List.setIfInBounds_toArray, List.set_cons_zero, List.set_cons_succ])
  refine WalkTail.last rfl (by kernel_rfl) (by kernel_rfl) (fun K hK => ?_)
  go_simp
  refine hK.out _ _ ?_
  clear hK K
  go_wp2_with fail
  refine H8.out.1.mono ?_
  rintro e w9 ⟨rfl, hS9, hf9⟩
  have hR9 := H8.out.2.2.1.fr hf9 (fun i hi e => e.2 (H8.out.2.2.2.2.2.2.1 i hi))
  have hRa9 := H8.out.2.1.fr hf9 (fun i hi e => e.2 (H8.out.2.2.2.2.2.2.1 i hi))
  have hT9 := H8.out.2.2.2.1.fr hf9 (fun i hi e => e.2 (H8.out.2.2.2.2.2.1 i hi.2))
  have hput := ledS_put (id := 2) (x := ⟨2, 0, []⟩) (t := k) (k := ksz) (n := nc) (c' := c8) hS9 H8.out.2.2.2.2.2.2.2 rfl HR.out.2.1 hR9 (fit_len _ _ _).symm H8.out.2.2.2.2.1
  rw [show (wwrite ([] : List Wr) (rowW k ksz (fit cols b nc))).2 = 0 from rfl, show (wwrite ([] : List Wr) (rowW k ksz (fit cols b nc))).1 = [rowW k ksz (fit cols b nc)] from rfl] at hput
  have H9 := Lib.hid (And.intro hput (And.intro hRa9 (And.intro hR9 hT9)))
  clear hput hS9 hf9 hR9 hRa9 hT9
  go_wp2_with fail
  refine H9.out.1.mono ?_
  rintro e w10 ⟨rfl, hS10, hf10⟩
  have hRb := H9.out.2.2.1.fr hf10 (fun i hi e => e.2 (H8.out.2.2.2.2.2.2.1 i hi))
  have hRa := H9.out.2.1.fr hf10 (fun i hi e => e.2 (H8.out.2.2.2.2.2.2.1 i hi))
  have hT10 := H9.out.2.2.2.fr hf10 (fun i hi e => e.2 (H8.out.2.2.2.2.2.1 i hi.2))
  obtain ⟨Wa, hWa⟩ : ∃ Wa, rowW k ksz (fit cols a nc) = Wa := ⟨_, rfl⟩
  obtain ⟨Wb, hWb⟩ : ∃ Wb, rowW k ksz (fit cols b nc) = Wb := ⟨_, rfl⟩
  have hS10' : LedS KS w w10 lb (twoL T Wa Wb) := by rw [← hWa, ← hWb]; exact hS10
  have hokT : (twoL T Wa Wb).Ok 4 := by
    rw [← hWa, ← hWb]
    exact H8.out.2.2.2.2.2.2.2.setTx ⟨(show 1 ≤ 20 by decide), fun y hy => by obtain rfl : y = _ := List.mem_singleton.1 hy; exact HR.out.2.2.2.1⟩ (by simp [Rising])
  have hkeyeq : Wa.key = Wb.key ↔ (fit cols a nc).take ksz = (fit cols b nc).take ksz := by
    rw [← hWa, ← hWb]
    constructor
    · intro e
      exact keyS_inj (fun v hv => fit_mem (List.mem_of_mem_take hv)) (fun v hv => fit_mem (List.mem_of_mem_take hv)) (by rw [List.length_take, List.length_take, fit_len, fit_len]) e
    · intro e
      show keyS k _ = keyS k _
      rw [e]
  have hksl : ksz ≤ nc := by omega
  obtain ⟨A7', hsl7, htk7⟩ := cut_hi (P := Tryz.prog) tVal 36 35 .i64 Tryz.underlying36 (by kernel_rfl) A7 nc c7 ksz hksl H7.out.2.2
  obtain ⟨A8', hsl8, htk8⟩ := cut_hi (P := Tryz.prog) tVal 36 35 .i64 Tryz.underlying36 (by kernel_rfl) A8 nc c8 ksz hksl H8.out.2.2.2.2.1
  have hsame := fun (w1 : World) (f : Fr No w10 w1) => same_ok (n := ksz) (m := ksz) (c := c7) (d := c8) ((htk7 w10 _ _ (fit_len _ _ _) hRa).fr0 f) ((htk8 w10 _ _ (fit_len _ _ _) hRb).fr0 f) (by rw [List.length_take, fit_len]; omega) (by rw [List.length_take, fit_len]; omega) (by rw [List.length_take, fit_len]; omega) (by rw [List.length_take, fit_len]; omega)
  obtain ⟨ad', RR', cc', had, y0, y1, y2, _, _⟩ := tab_at hT10 (show k < T.length by rw [HT.out.2.2.1]; exact HT.out.2.2.2)
  obtain rfl := Option.some.inj had
  rw [HR.out.2.2.2.2.2] at y2
  have hWaf : 1 ≤ Wa.key.size ∧ Wa.key.size ≤ 4000 ∧ Wa.row.length ≤ 4000 ∧ (Wa.gone = true → Wa.row = []) := by rw [← hWa]; have := HR.out.2.2.1; exact ⟨this.1, by omega, this.2.2⟩
  have hWbf : 1 ≤ Wb.key.size ∧ Wb.key.size ≤ 4000 ∧ Wb.row.length ≤ 4000 ∧ (Wb.gone = true → Wb.row = []) := by rw [← hWb]; have := HR.out.2.2.2.1; exact ⟨this.1, by omega, this.2.2⟩
  have H10 := Lib.hid (And.intro hS10' (And.intro hokT (And.intro hkeyeq (And.intro hsame (And.intro hWaf (And.intro hWbf (Fr.refl No w10)))))))
  clear hS10 hS10' hokT hkeyeq hsame hWaf hWbf hWa hWb hRa hRb hT10 hf10 htk7 htk8 y0 y1 had
  cases order with
  | false =>
    have HP := Lib.hid (show Pair 1 2 from ⟨.inl ⟨rfl, rfl⟩⟩)
    have HPK := Lib.hid (show pick 1 Wa Wb = Wa ∧ pick 2 Wa Wb = Wb from ⟨rfl, rfl⟩)
    go_wp2_with fail
    refine wp_region_tail 14 (fun w' => w'.cell? ⟨(ad.add (k * 3)).block, (ad.add (k * 3)).off + 2, none⟩ = some (.int .i64 (ksz : Int))) (by kernel_rfl) (by exact y2) (fun hHeld => ?_)
    refine WalkTail.take (i := 0) (v := ?vf0) rfl (by kernel_rfl) (fun _ _ _ h => h) (Or.inl ⟨by rfl, ?hyf0⟩) (by assumption) ?_
    case hyf0 => (intro w hSw; (try dsimp only at hSw); go_simp; try with_reducible rfl)
    (try simp only [Act.put, List.setIfInBounds_toArray, List.set_cons_zero, List.set_cons_succ])
    refine WalkTail.take (i := 1) (v := ?vf1) rfl (by kernel_rfl) (fun _ _ _ h => h) (Or.inl ⟨by rfl, ?hyf1⟩) (by assumption) ?_
    case hyf1 => (intro w hSw; (try dsimp only at hSw); go_simp; try with_reducible rfl)
    (try simp only [Act.put, List.setIfInBounds_toArray, List.set_cons_zero, List.set_cons_succ])
    refine WalkTail.take (i := 2) (v := ?vf2) rfl (by kernel_rfl) (fun _ _ _ h => h) (Or.inl ⟨by rfl, ?hyf2⟩) (by assumption) ?_
    case hyf2 => (intro w hSw; (try dsimp only at hSw); go_simp; try with_reducible rfl)
    (try simp only [Act.put, List.setIfInBounds_toArray, List.set_cons_zero, List.set_cons_succ])
    refine WalkTail.take (i := 3) (v := ?vf3) rfl (by kernel_rfl) (fun _ _ _ h => h) (Or.inl ⟨by rfl, ?hyf3⟩) (by assumption) ?_
    case hyf3 => (intro w hSw; (try dsimp only at hSw); go_simp; try with_reducible rfl)
    (try simp only [Act.put, List.setIfInBounds_toArray, List.set_cons_zero, List.set_cons_succ])
    refine WalkTail.take (i := 4) (v := ?vf4) rfl (by kernel_rfl) (fun _ _ _ h => h) (Or.inl ⟨by rfl, ?hyf4⟩) (by assumption) ?_
    case hyf4 => (intro w hSw; (try dsimp only at hSw); go_simp; try with_reducible rfl)
    (try simp only [Act.put, List.setIfInBounds_toArray, List.set_cons_zero, List.set_cons_succ])
    refine WalkTail.take (i := 5) (v := ?vf5) rfl (by kernel_rfl) (fun _ _ _ h => h) (Or.inl ⟨by rfl, ?hyf5⟩) (by assumption) ?_
    case hyf5 => (intro w hSw; (try dsimp only at hSw); go_simp; try with_reducible rfl)
    (try simp only [Act.put, List.setIfInBounds_toArray, List.set_cons_zero, List.set_cons_succ])
    refine WalkTail.take (i := 6) (v := ?vf6) rfl (by kernel_rfl) (fun _ _ _ h => h) (Or.inl ⟨by rfl, ?hyf6⟩) (by assumption) ?_
    case hyf6 => (intro w hSw; (try dsimp only at hSw); go_simp; try with_reducible rfl)
    (try simp only [Act.put, List.setIfInBounds_toArray, List.set_cons_zero, List.set_cons_succ])
    refine WalkTail.take (i := 7) (v := ?vf7) rfl (by kernel_rfl) (fun _ _ _ h => h) (Or.inl ⟨by rfl, ?hyf7⟩) (by assumption) ?_
    case hyf7 => (intro w hSw; (try dsimp only at hSw); go_simp; try with_reducible rfl)
    (try simp only [Act.put, List.setIfInBounds_toArray, List.set_cons_zero, List.set_cons_succ])
    refine WalkTail.take (i := 8) (v := ?vf8) rfl (by kernel_rfl) (fun _ _ _ h => h) (Or.inl ⟨by rfl, ?hyf8⟩) (by assumption) ?_
    case hyf8 => (intro w hSw; (try dsimp only at hSw); go_simp; try with_reducible rfl)
    (try simp only [Act.put, List.setIfInBounds_toArray, List.set_cons_zero, List.set_cons_succ])
    refine WalkTail.take (i := 9) (v := ?vf9) rfl (by kernel_rfl) (fun _ _ _ h => h) (Or.inl ⟨by rfl, ?hyf9⟩) (by assumption) ?_
    case hyf9 => (intro w hSw; (try dsimp only at hSw); go_simp; try with_reducible rfl)
    (try simp only [Act.put, List.setIfInBounds_toArray, List.set_cons_zero, List.set_cons_succ])
    refine WalkTail.take (i := 10) (v := ?vf10) rfl (by kernel_rfl) (fun _ _ _ h => h) (Or.inl ⟨by rfl, ?hyf10⟩) (by assumption) ?_
    case hyf10 => (intro w hSw; (try dsimp only at hSw); go_simp; try with_reducible rfl)
    (try simp only [Act.put, List.setIfInBounds_toArray, List.set_cons_zero, List.set_cons_succ])
    refine WalkTail.take (i := 11) (v := ?vf11) rfl (by kernel_rfl) (fun _ _ _ h => h) (Or.inl ⟨by rfl, ?hyf11⟩) (by assumption) ?_
    case hyf11 => (intro w hSw; (try dsimp only at hSw); go_simp; try with_reducible rfl)
    (try simp only [Act.put, List.setIfInBounds_toArray, List.set_cons_zero, List.set_cons_succ])
    refine WalkTail.take (i := 12) (v := ?vf12) rfl (by kernel_rfl) (fun _ _ _ h => h) (Or.inl ⟨by rfl, ?hyf12⟩) (by assumption) ?_
    case hyf12 => (intro w hSw; (try dsimp only at hSw); go_simp; try with_reducible rfl)
    (try simp only [Act.put, List.setIfInBounds_toArray, List.set_cons_zero, List.set_cons_succ])
    refine WalkTail.take (i := 13) (v := ?vf13) rfl (by kernel_rfl) (fun _ _ _ h => h) (Or.inl ⟨by rfl, ?hyf13⟩) (by assumption) ?_
    case hyf13 => (intro w hSw; (try dsimp only at hSw); go_simp; try with_reducible rfl)
    (try simp only [Act.put, List.setIfInBounds_toArray, List.set_cons_zero, List.set_cons_succ])
    refine WalkTail.last rfl (by kernel_rfl) (by kernel_rfl) (fun K hK => ?_)
    go_simp
    go_at_call 23
    refine (H10.out.2.2.2.1 _ (by repeat (first | exact H10.out.2.2.2.2.2.2 | apply Fr.drew | apply Fr.drewN))).mono ?_
    rintro e w11 ⟨rfl, hf11⟩
    have hg11 : Fr No w10 w11 := Fr.next (G := No) (by repeat (first | exact H10.out.2.2.2.2.2.2 | apply Fr.drew | apply Fr.drewN)) hf11 (fun _ _ f => f.elim)
    have hS11 := H10.out.1.fr0 hg11
    have hform := two_form2 (T := T) (W1 := Wa) (W2 := Wb) HP.out
    rw [HPK.out.1, HPK.out.2] at hform
    by_cases hkt : (fit cols a nc).take ksz = (fit cols b nc).take ksz
    · rw [decide_eq_true hkt]
      have hkey := H10.out.2.2.1.2 hkt
      rw [if_pos hkey] at hform
      have H11 := Lib.hid (And.intro hS11 (And.intro hform hkey))
      clear hS11 hform hkey hkt hf11 hg11
      go_wp2_with fail
      refine hK.out _ _ ?_
      clear hK K
      cases together with
      | true =>
        go_wp2_with fail
        have hfa : Fr No w11 (w11.alloc (.cells #[.int .i64 1, .int .i64 2] 3)) := (Fr.refl No w11).alloc _
        have hgrp := ledS_group (ids := [1, 2]) (n := 2) (ci := 2) (R := fun i => i = w11.heap.size) (H11.out.1.more hfa) H10.out.2.1 (by decide) (ids_two rfl (heap_alloc_new w11 _)) (fun i hi => .inr ⟨Nat.le_of_eq hi.symm, by rw [show i = w11.heap.size from hi]; simp⟩) rfl (Nat.le_refl 2) (by decide)
        rw [H11.out.2.1] at hgrp
        have HG := Lib.hid hgrp
        clear hgrp hfa
        refine HG.out.mono ?_
        rintro e w13 ⟨Ao', co', ys, rfl, hOe, hperm, hrise, hS13, hf13⟩
        have hfb : Fr No w13 (w13.alloc (.cells #[.int .i64 0, .int .i64 7] 24)) := (Fr.refl No w13).alloc _
        have herr := errs_ok (n := 2) (m := 2) (c := co') (d := 2) (hOe.rd.2.2.fr0 hfb) (rd_ints2 (heap_alloc_new w13 (.cells #[.int .i64 0, .int .i64 7] 24))) rfl rfl (show 2 ≤ 1000 by decide) (by decide)
        rw [decide_eq_true (show ([0, 7] : List Int) = [0, 7] from rfl)] at herr
        have hne : ys ≠ [] := fun e => by rw [e] at hperm; have := hperm.length_eq; simp at this
        have hnow : ((twoL T Wa Wb).publish ys [1, 2]).s.now = 1 := by rw [publish_now _ _ _ hne]; rfl
        have HE := Lib.hid (And.intro herr (And.intro (hS13.fr0 hfb) hnow))
        clear herr hfb hne hnow hOe hperm hrise hS13 hf13
        go_wp2_with fail
        refine HE.out.1.mono ?_
        rintro e w15 ⟨rfl, hf15⟩
        have hN := ledS_now (HE.out.2.1.fr0 hf15)
        rw [HE.out.2.2] at hN
        have HN := Lib.hid (And.intro hN (HE.out.2.1.fr0 hf15).fr)
        clear hN hf15
        go_wp2_with fail
        refine HN.out.1.mono ?_
        rintro e w15 ⟨rfl, rfl⟩
        go_wp2_with fail
        go_ret
        exact ⟨rfl, HN.out.2⟩
      | false =>
        go_wp2_with fail
        have hfa : Fr No w11 (w11.alloc (.cells #[.int .i64 1] 3)) := (Fr.refl No w11).alloc _
        have hgrp := ledS_group (ids := [1]) (n := 1) (ci := 1) (R := fun i => i = w11.heap.size) (H11.out.1.more hfa) H10.out.2.1 (by decide) (ids_one' rfl (heap_alloc_new w11 _)) (fun i hi => .inr ⟨Nat.le_of_eq hi.symm, by rw [show i = w11.heap.size from hi]; simp⟩) rfl (Nat.le_refl 1) (by decide)
        rw [two_form1 HP.out, HPK.out.1] at hgrp
        have HG := Lib.hid hgrp
        clear hgrp hfa
        refine HG.out.mono ?_
        rintro e w13 ⟨Ao', co', ys, rfl, hOe, hperm, hrise, hS13, hf13⟩
        obtain rfl : ys = [Wa] := List.perm_singleton.1 hperm
        have hfb : Fr No w13 (w13.alloc (.cells #[.int .i64 0] 24)) := (Fr.refl No w13).alloc _
        have herr := errs_ok (n := 1) (m := 1) (c := co') (d := 1) (hOe.rd.2.2.fr0 hfb) (rd_ints1 (heap_alloc_new w13 (.cells #[.int .i64 0] 24))) rfl rfl (show 1 ≤ 1000 by decide) (by decide)
        rw [decide_eq_true (show ([0] : List Int) = [0] from rfl)] at herr
        have hok5 := Led.Ok.publish (m := 4) (ws := [Wa]) H10.out.2.1 (by show Rising []; simp [Rising]) [1] (fun _ => right_rise (n := 1) (by decide) (by simp) (show 1 ≤ 64 by decide) (by simp [Rising]) (fun x hx => by obtain rfl : x = Wa := List.mem_singleton.1 hx; first | exact H10.out.2.2.2.2.1 | exact H10.out.2.2.2.2.2.1))
        have HE := Lib.hid (And.intro herr (And.intro (hS13.fr0 hfb) hok5))
        clear herr hfb hOe hperm hrise hS13 hf13 hok5
        go_wp2_with fail
        refine HE.out.1.mono ?_
        rintro e w15 ⟨rfl, hf15⟩
        have hS15 := HE.out.2.1.fr0 hf15
        have hfa : Fr No w15 (w15.alloc (.cells #[.int .i64 2] 3)) := (Fr.refl No w15).alloc _
        have hgrp := ledS_group (ids := [2]) (n := 1) (ci := 1) (R := fun i => i = w15.heap.size) (hS15.more hfa) HE.out.2.2 (by decide) (ids_one' rfl (heap_alloc_new w15 _)) (fun i hi => .inr ⟨Nat.le_of_eq hi.symm, by rw [show i = w15.heap.size from hi]; simp⟩) rfl (Nat.le_refl 1) (by decide)
        have hform := two_form3 (T := T) (W1 := Wa) (W2 := Wb) HP.out
        rw [HPK.out.1, HPK.out.2] at hform
        rw [if_pos H11.out.2.2] at hform
        rw [hform] at hgrp
        have HG2 := Lib.hid hgrp
        clear hgrp hfa hform hS15 hf15
        go_wp2_with fail
        refine HG2.out.mono ?_
        rintro e w17 ⟨Ao2, co2, ys2, rfl, hOe, hperm, hrise, hS17, hf17⟩
        have hfb : Fr No w17 (w17.alloc (.cells #[.int .i64 7] 24)) := (Fr.refl No w17).alloc _
        have herr := errs_ok (n := 1) (m := 1) (c := co2) (d := 1) (hOe.rd.2.2.fr0 hfb) (rd_ints1 (heap_alloc_new w17 (.cells #[.int .i64 7] 24))) rfl rfl (show 1 ≤ 1000 by decide) (by decide)
        rw [decide_eq_true (show ([7] : List Int) = [7] from rfl)] at herr
        have hfind : (((twoL T Wa Wb).publish [Wa] [1]).publish ys2 [2]).find 2 = none := by rw [find_publish, if_pos (by simp)]
        have HE2 := Lib.hid (And.intro herr (And.intro (hS17.fr0 hfb) hfind))
        clear herr hfb hOe hperm hrise hS17 hf17 hfind
        go_wp2_with fail
        refine HE2.out.1.mono ?_
        rintro e w19 ⟨rfl, hf19⟩
        have hop := ledS_open (HE2.out.2.1.fr0 hf19) 2
        rw [HE2.out.2.2] at hop
        have HN := Lib.hid (And.intro hop (HE2.out.2.1.fr0 hf19).fr)
        clear hop hf19
        go_wp2_with fail
        refine HN.out.1.mono ?_
        rintro e w19 ⟨rfl, rfl⟩
        go_wp2_with fail
        go_ret
        exact ⟨rfl, HN.out.2⟩
    · rw [decide_eq_false hkt]
      have hkey : ¬ Wa.key = Wb.key := fun e => hkt (H10.out.2.2.1.1 (by first | exact e | exact e.symm))
      rw [if_neg hkey] at hform
      have H11 := Lib.hid (And.intro hS11 (And.intro hform hkey))
      clear hS11 hform hkey hkt hf11 hg11
      go_wp2_with fail
      refine hK.out _ _ ?_
      clear hK K
      cases together with
      | true =>
        go_wp2_with fail
        have hfa : Fr No w11 (w11.alloc (.cells #[.int .i64 1, .int .i64 2] 3)) := (Fr.refl No w11).alloc _
        have hgrp := ledS_group (ids := [1, 2]) (n := 2) (ci := 2) (R := fun i => i = w11.heap.size) (H11.out.1.more hfa) H10.out.2.1 (by decide) (ids_two rfl (heap_alloc_new w11 _)) (fun i hi => .inr ⟨Nat.le_of_eq hi.symm, by rw [show i = w11.heap.size from hi]; simp⟩) rfl (Nat.le_refl 2) (by decide)
        rw [H11.out.2.1] at hgrp
        have HG := Lib.hid hgrp
        clear hgrp hfa
        refine HG.out.mono ?_
        rintro e w13 ⟨Ao', co', ys, rfl, hOe, hperm, hrise, hS13, hf13⟩
        have hfb : Fr No w13 (w13.alloc (.cells #[.int .i64 0, .int .i64 0] 24)) := (Fr.refl No w13).alloc _
        have herr := errs_ok (n := 2) (m := 2) (c := co') (d := 2) (hOe.rd.2.2.fr0 hfb) (rd_ints2 (heap_alloc_new w13 (.cells #[.int .i64 0, .int .i64 0] 24))) rfl rfl (show 2 ≤ 1000 by decide) (by decide)
        rw [decide_eq_true (show ([0, 0] : List Int) = [0, 0] from rfl)] at herr
        have hne : ys ≠ [] := fun e => by rw [e] at hperm; have := hperm.length_eq; simp at this
        have hnow : ((twoL T Wa Wb).publish ys [1, 2]).s.now = 1 := by rw [publish_now _ _ _ hne]; rfl
        have HE := Lib.hid (And.intro herr (And.intro (hS13.fr0 hfb) hnow))
        clear herr hfb hne hnow hOe hperm hrise hS13 hf13
        go_wp2_with fail
        refine HE.out.1.mono ?_
        rintro e w15 ⟨rfl, hf15⟩
        have hN := ledS_now (HE.out.2.1.fr0 hf15)
        rw [HE.out.2.2] at hN
        have HN := Lib.hid (And.intro hN (HE.out.2.1.fr0 hf15).fr)
        clear hN hf15
        go_wp2_with fail
        refine HN.out.1.mono ?_
        rintro e w15 ⟨rfl, rfl⟩
        go_wp2_with fail
        go_ret
        exact ⟨rfl, HN.out.2⟩
      | false =>
        go_wp2_with fail
        have hfa : Fr No w11 (w11.alloc (.cells #[.int .i64 1] 3)) := (Fr.refl No w11).alloc _
        have hgrp := ledS_group (ids := [1]) (n := 1) (ci := 1) (R := fun i => i = w11.heap.size) (H11.out.1.more hfa) H10.out.2.1 (by decide) (ids_one' rfl (heap_alloc_new w11 _)) (fun i hi => .inr ⟨Nat.le_of_eq hi.symm, by rw [show i = w11.heap.size from hi]; simp⟩) rfl (Nat.le_refl 1) (by decide)
        rw [two_form1 HP.out, HPK.out.1] at hgrp
        have HG := Lib.hid hgrp
        clear hgrp hfa
        refine HG.out.mono ?_
        rintro e w13 ⟨Ao', co', ys, rfl, hOe, hperm, hrise, hS13, hf13⟩
        obtain rfl : ys = [Wa] := List.perm_singleton.1 hperm
        have hfb : Fr No w13 (w13.alloc (.cells #[.int .i64 0] 24)) := (Fr.refl No w13).alloc _
        have herr := errs_ok (n := 1) (m := 1) (c := co') (d := 1) (hOe.rd.2.2.fr0 hfb) (rd_ints1 (heap_alloc_new w13 (.cells #[.int .i64 0] 24))) rfl rfl (show 1 ≤ 1000 by decide) (by decide)
        rw [decide_eq_true (show ([0] : List Int) = [0] from rfl)] at herr
        have hok5 := Led.Ok.publish (m := 4) (ws := [Wa]) H10.out.2.1 (by show Rising []; simp [Rising]) [1] (fun _ => right_rise (n := 1) (by decide) (by simp) (show 1 ≤ 64 by decide) (by simp [Rising]) (fun x hx => by obtain rfl : x = Wa := List.mem_singleton.1 hx; first | exact H10.out.2.2.2.2.1 | exact H10.out.2.2.2.2.2.1))
        have HE := Lib.hid (And.intro herr (And.intro (hS13.fr0 hfb) hok5))
        clear herr hfb hOe hperm hrise hS13 hf13 hok5
        go_wp2_with fail
        refine HE.out.1.mono ?_
        rintro e w15 ⟨rfl, hf15⟩
        have hS15 := HE.out.2.1.fr0 hf15
        have hfa : Fr No w15 (w15.alloc (.cells #[.int .i64 2] 3)) := (Fr.refl No w15).alloc _
        have hgrp := ledS_group (ids := [2]) (n := 1) (ci := 1) (R := fun i => i = w15.heap.size) (hS15.more hfa) HE.out.2.2 (by decide) (ids_one' rfl (heap_alloc_new w15 _)) (fun i hi => .inr ⟨Nat.le_of_eq hi.symm, by rw [show i = w15.heap.size from hi]; simp⟩) rfl (Nat.le_refl 1) (by decide)
        have hform := two_form3 (T := T) (W1 := Wa) (W2 := Wb) HP.out
        rw [HPK.out.1, HPK.out.2] at hform
        rw [if_neg H11.out.2.2] at hform
        rw [hform] at hgrp
        have HG2 := Lib.hid hgrp
        clear hgrp hfa hform hS15 hf15
        go_wp2_with fail
        refine HG2.out.mono ?_
        rintro e w17 ⟨Ao2, co2, ys2, rfl, hOe, hperm, hrise, hS17, hf17⟩
        have hfb : Fr No w17 (w17.alloc (.cells #[.int .i64 0] 24)) := (Fr.refl No w17).alloc _
        have herr := errs_ok (n := 1) (m := 1) (c := co2) (d := 1) (hOe.rd.2.2.fr0 hfb) (rd_ints1 (heap_alloc_new w17 (.cells #[.int .i64 0] 24))) rfl rfl (show 1 ≤ 1000 by decide) (by decide)
        rw [decide_eq_true (show ([0] : List Int) = [0] from rfl)] at herr
        have hfind : (((twoL T Wa Wb).publish [Wa] [1]).publish ys2 [2]).find 2 = none := by rw [find_publish, if_pos (by simp)]
        have HE2 := Lib.hid (And.intro herr (And.intro (hS17.fr0 hfb) hfind))
        clear herr hfb hOe hperm hrise hS17 hf17 hfind
        go_wp2_with fail
        refine HE2.out.1.mono ?_
        rintro e w19 ⟨rfl, hf19⟩
        have hop := ledS_open (HE2.out.2.1.fr0 hf19) 2
        rw [HE2.out.2.2] at hop
        have HN := Lib.hid (And.intro hop (HE2.out.2.1.fr0 hf19).fr)
        clear hop hf19
        go_wp2_with fail
        refine HN.out.1.mono ?_
        rintro e w19 ⟨rfl, rfl⟩
        go_wp2_with fail
        go_ret
        exact ⟨rfl, HN.out.2⟩
  | true =>
    have HP := Lib.hid (show Pair 2 1 from ⟨.inr ⟨rfl, rfl⟩⟩)
    have HPK := Lib.hid (show pick 2 Wa Wb = Wb ∧ pick 1 Wa Wb = Wa from ⟨rfl, rfl⟩)
    go_wp2_with fail
    refine wp_region_tail 14 (fun w' => w'.cell? ⟨(ad.add (k * 3)).block, (ad.add (k * 3)).off + 2, none⟩ = some (.int .i64 (ksz : Int))) (by kernel_rfl) (by exact y2) (fun hHeld => ?_)
    refine WalkTail.take (i := 0) (v := ?vg0) rfl (by kernel_rfl) (fun _ _ _ h => h) (Or.inl ⟨by rfl, ?hyg0⟩) (by assumption) ?_
    case hyg0 => (intro w hSw; (try dsimp only at hSw); go_simp; try with_reducible rfl)
    (try simp only [Act.put, List.setIfInBounds_toArray, List.set_cons_zero, List.set_cons_succ])
    refine WalkTail.take (i := 1) (v := ?vg1) rfl (by kernel_rfl) (fun _ _ _ h => h) (Or.inl ⟨by rfl, ?hyg1⟩) (by assumption) ?_
    case hyg1 => (intro w hSw; (try dsimp only at hSw); go_simp; try with_reducible rfl)
    (try simp only [Act.put, List.setIfInBounds_toArray, List.set_cons_zero, List.set_cons_succ])
    refine WalkTail.take (i := 2) (v := ?vg2) rfl (by kernel_rfl) (fun _ _ _ h => h) (Or.inl ⟨by rfl, ?hyg2⟩) (by assumption) ?_
    case hyg2 => (intro w hSw; (try dsimp only at hSw); go_simp; try with_reducible rfl)
    (try simp only [Act.put, List.setIfInBounds_toArray, List.set_cons_zero, List.set_cons_succ])
    refine WalkTail.take (i := 3) (v := ?vg3) rfl (by kernel_rfl) (fun _ _ _ h => h) (Or.inl ⟨by rfl, ?hyg3⟩) (by assumption) ?_
    case hyg3 => (intro w hSw; (try dsimp only at hSw); go_simp; try with_reducible rfl)
    (try simp only [Act.put, List.setIfInBounds_toArray, List.set_cons_zero, List.set_cons_succ])
    refine WalkTail.take (i := 4) (v := ?vg4) rfl (by kernel_rfl) (fun _ _ _ h => h) (Or.inl ⟨by rfl, ?hyg4⟩) (by assumption) ?_
    case hyg4 => (intro w hSw; (try dsimp only at hSw); go_simp; try with_reducible rfl)
    (try simp only [Act.put, List.setIfInBounds_toArray, List.set_cons_zero, List.set_cons_succ])
    refine WalkTail.take (i := 5) (v := ?vg5) rfl (by kernel_rfl) (fun _ _ _ h => h) (Or.inl ⟨by rfl, ?hyg5⟩) (by assumption) ?_
    case hyg5 => (intro w hSw; (try dsimp only at hSw); go_simp; try with_reducible rfl)
    (try simp only [Act.put, List.setIfInBounds_toArray, List.set_cons_zero, List.set_cons_succ])
    refine WalkTail.take (i := 6) (v := ?vg6) rfl (by kernel_rfl) (fun _ _ _ h => h) (Or.inl ⟨by rfl, ?hyg6⟩) (by assumption) ?_
    case hyg6 => (intro w hSw; (try dsimp only at hSw); go_simp; try with_reducible rfl)
    (try simp only [Act.put, List.setIfInBounds_toArray, List.set_cons_zero, List.set_cons_succ])
    refine WalkTail.take (i := 7) (v := ?vg7) rfl (by kernel_rfl) (fun _ _ _ h => h) (Or.inl ⟨by rfl, ?hyg7⟩) (by assumption) ?_
    case hyg7 => (intro w hSw; (try dsimp only at hSw); go_simp; try with_reducible rfl)
    (try simp only [Act.put, List.setIfInBounds_toArray, List.set_cons_zero, List.set_cons_succ])
    refine WalkTail.take (i := 8) (v := ?vg8) rfl (by kernel_rfl) (fun _ _ _ h => h) (Or.inl ⟨by rfl, ?hyg8⟩) (by assumption) ?_
    case hyg8 => (intro w hSw; (try dsimp only at hSw); go_simp; try with_reducible rfl)
    (try simp only [Act.put, List.setIfInBounds_toArray, List.set_cons_zero, List.set_cons_succ])
    refine WalkTail.take (i := 9) (v := ?vg9) rfl (by kernel_rfl) (fun _ _ _ h => h) (Or.inl ⟨by rfl, ?hyg9⟩) (by assumption) ?_
    case hyg9 => (intro w hSw; (try dsimp only at hSw); go_simp; try with_reducible rfl)
    (try simp only [Act.put, List.setIfInBounds_toArray, List.set_cons_zero, List.set_cons_succ])
    refine WalkTail.take (i := 10) (v := ?vg10) rfl (by kernel_rfl) (fun _ _ _ h => h) (Or.inl ⟨by rfl, ?hyg10⟩) (by assumption) ?_
    case hyg10 => (intro w hSw; (try dsimp only at hSw); go_simp; try with_reducible rfl)
    (try simp only [Act.put, List.setIfInBounds_toArray, List.set_cons_zero, List.set_cons_succ])
    refine WalkTail.take (i := 11) (v := ?vg11) rfl (by kernel_rfl) (fun _ _ _ h => h) (Or.inl ⟨by rfl, ?hyg11⟩) (by assumption) ?_
    case hyg11 => (intro w hSw; (try dsimp only at hSw); go_simp; try with_reducible rfl)
    (try simp only [Act.put, List.setIfInBounds_toArray, List.set_cons_zero, List.set_cons_succ])
    refine WalkTail.take (i := 12) (v := ?vg12) rfl (by kernel_rfl) (fun _ _ _ h => h) (Or.inl ⟨by rfl, ?hyg12⟩) (by assumption) ?_
    case hyg12 => (intro w hSw; (try dsimp only at hSw); go_simp; try with_reducible rfl)
    (try simp only [Act.put, List.setIfInBounds_toArray, List.set_cons_zero, List.set_cons_succ])
    refine WalkTail.take (i := 13) (v := ?vg13) rfl (by kernel_rfl) (fun _ _ _ h => h) (Or.inl ⟨by rfl, ?hyg13⟩) (by assumption) ?_
    case hyg13 => (intro w hSw; (try dsimp only at hSw); go_simp; try with_reducible rfl)
    (try simp only [Act.put, List.setIfInBounds_toArray, List.set_cons_zero, List.set_cons_succ])
    refine WalkTail.last rfl (by kernel_rfl) (by kernel_rfl) (fun K hK => ?_)
    go_simp
    go_at_call 23
    refine (H10.out.2.2.2.1 _ (by repeat (first | exact H10.out.2.2.2.2.2.2 | apply Fr.drew | apply Fr.drewN))).mono ?_
    rintro e w11 ⟨rfl, hf11⟩
    have hg11 : Fr No w10 w11 := Fr.next (G := No) (by repeat (first | exact H10.out.2.2.2.2.2.2 | apply Fr.drew | apply Fr.drewN)) hf11 (fun _ _ f => f.elim)
    have hS11 := H10.out.1.fr0 hg11
    have hform := two_form2 (T := T) (W1 := Wa) (W2 := Wb) HP.out
    rw [HPK.out.1, HPK.out.2] at hform
    by_cases hkt : (fit cols a nc).take ksz = (fit cols b nc).take ksz
    · rw [decide_eq_true hkt]
      have hkey := H10.out.2.2.1.2 hkt
      rw [if_pos hkey.symm] at hform
      have H11 := Lib.hid (And.intro hS11 (And.intro hform hkey.symm))
      clear hS11 hform hkey hkt hf11 hg11
      go_wp2_with fail
      refine hK.out _ _ ?_
      clear hK K
      cases together with
      | true =>
        go_wp2_with fail
        have hfa : Fr No w11 (w11.alloc (.cells #[.int .i64 2, .int .i64 1] 3)) := (Fr.refl No w11).alloc _
        have hgrp := ledS_group (ids := [2, 1]) (n := 2) (ci := 2) (R := fun i => i = w11.heap.size) (H11.out.1.more hfa) H10.out.2.1 (by decide) (ids_two rfl (heap_alloc_new w11 _)) (fun i hi => .inr ⟨Nat.le_of_eq hi.symm, by rw [show i = w11.heap.size from hi]; simp⟩) rfl (Nat.le_refl 2) (by decide)
        rw [H11.out.2.1] at hgrp
        have HG := Lib.hid hgrp
        clear hgrp hfa
        refine HG.out.mono ?_
        rintro e w13 ⟨Ao', co', ys, rfl, hOe, hperm, hrise, hS13, hf13⟩
        have hfb : Fr No w13 (w13.alloc (.cells #[.int .i64 0, .int .i64 7] 24)) := (Fr.refl No w13).alloc _
        have herr := errs_ok (n := 2) (m := 2) (c := co') (d := 2) (hOe.rd.2.2.fr0 hfb) (rd_ints2 (heap_alloc_new w13 (.cells #[.int .i64 0, .int .i64 7] 24))) rfl rfl (show 2 ≤ 1000 by decide) (by decide)
        rw [decide_eq_true (show ([0, 7] : List Int) = [0, 7] from rfl)] at herr
        have hne : ys ≠ [] := fun e => by rw [e] at hperm; have := hperm.length_eq; simp at this
        have hnow : ((twoL T Wa Wb).publish ys [2, 1]).s.now = 1 := by rw [publish_now _ _ _ hne]; rfl
        have HE := Lib.hid (And.intro herr (And.intro (hS13.fr0 hfb) hnow))
        clear herr hfb hne hnow hOe hperm hrise hS13 hf13
        go_wp2_with fail
        refine HE.out.1.mono ?_
        rintro e w15 ⟨rfl, hf15⟩
        have hN := ledS_now (HE.out.2.1.fr0 hf15)
        rw [HE.out.2.2] at hN
        have HN := Lib.hid (And.intro hN (HE.out.2.1.fr0 hf15).fr)
        clear hN hf15
        go_wp2_with fail
        refine HN.out.1.mono ?_
        rintro e w15 ⟨rfl, rfl⟩
        go_wp2_with fail
        go_ret
        exact ⟨rfl, HN.out.2⟩
      | false =>
        go_wp2_with fail
        have hfa : Fr No w11 (w11.alloc (.cells #[.int .i64 2] 3)) := (Fr.refl No w11).alloc _
        have hgrp := ledS_group (ids := [2]) (n := 1) (ci := 1) (R := fun i => i = w11.heap.size) (H11.out.1.more hfa) H10.out.2.1 (by decide) (ids_one' rfl (heap_alloc_new w11 _)) (fun i hi => .inr ⟨Nat.le_of_eq hi.symm, by rw [show i = w11.heap.size from hi]; simp⟩) rfl (Nat.le_refl 1) (by decide)
        rw [two_form1 HP.out, HPK.out.1] at hgrp
        have HG := Lib.hid hgrp
        clear hgrp hfa
        refine HG.out.mono ?_
        rintro e w13 ⟨Ao', co', ys, rfl, hOe, hperm, hrise, hS13, hf13⟩
        obtain rfl : ys = [Wb] := List.perm_singleton.1 hperm
        have hfb : Fr No w13 (w13.alloc (.cells #[.int .i64 0] 24)) := (Fr.refl No w13).alloc _
        have herr := errs_ok (n := 1) (m := 1) (c := co') (d := 1) (hOe.rd.2.2.fr0 hfb) (rd_ints1 (heap_alloc_new w13 (.cells #[.int .i64 0] 24))) rfl rfl (show 1 ≤ 1000 by decide) (by decide)
        rw [decide_eq_true (show ([0] : List Int) = [0] from rfl)] at herr
        have hok5 := Led.Ok.publish (m := 4) (ws := [Wb]) H10.out.2.1 (by show Rising []; simp [Rising]) [2] (fun _ => right_rise (n := 1) (by decide) (by simp) (show 1 ≤ 64 by decide) (by simp [Rising]) (fun x hx => by obtain rfl : x = Wb := List.mem_singleton.1 hx; first | exact H10.out.2.2.2.2.1 | exact H10.out.2.2.2.2.2.1))
        have HE := Lib.hid (And.intro herr (And.intro (hS13.fr0 hfb) hok5))
        clear herr hfb hOe hperm hrise hS13 hf13 hok5
        go_wp2_with fail
        refine HE.out.1.mono ?_
        rintro e w15 ⟨rfl, hf15⟩
        have hS15 := HE.out.2.1.fr0 hf15
        have hfa : Fr No w15 (w15.alloc (.cells #[.int .i64 1] 3)) := (Fr.refl No w15).alloc _
        have hgrp := ledS_group (ids := [1]) (n := 1) (ci := 1) (R := fun i => i = w15.heap.size) (hS15.more hfa) HE.out.2.2 (by decide) (ids_one' rfl (heap_alloc_new w15 _)) (fun i hi => .inr ⟨Nat.le_of_eq hi.symm, by rw [show i = w15.heap.size from hi]; simp⟩) rfl (Nat.le_refl 1) (by decide)
        have hform := two_form3 (T := T) (W1 := Wa) (W2 := Wb) HP.out
        rw [HPK.out.1, HPK.out.2] at hform
        rw [if_pos H11.out.2.2] at hform
        rw [hform] at hgrp
        have HG2 := Lib.hid hgrp
        clear hgrp hfa hform hS15 hf15
        go_wp2_with fail
        refine HG2.out.mono ?_
        rintro e w17 ⟨Ao2, co2, ys2, rfl, hOe, hperm, hrise, hS17, hf17⟩
        have hfb : Fr No w17 (w17.alloc (.cells #[.int .i64 7] 24)) := (Fr.refl No w17).alloc _
        have herr := errs_ok (n := 1) (m := 1) (c := co2) (d := 1) (hOe.rd.2.2.fr0 hfb) (rd_ints1 (heap_alloc_new w17 (.cells #[.int .i64 7] 24))) rfl rfl (show 1 ≤ 1000 by decide) (by decide)
        rw [decide_eq_true (show ([7] : List Int) = [7] from rfl)] at herr
        have hfind : (((twoL T Wa Wb).publish [Wb] [2]).publish ys2 [1]).find 1 = none := by rw [find_publish, if_pos (by simp)]
        have HE2 := Lib.hid (And.intro herr (And.intro (hS17.fr0 hfb) hfind))
        clear herr hfb hOe hperm hrise hS17 hf17 hfind
        go_wp2_with fail
        refine HE2.out.1.mono ?_
        rintro e w19 ⟨rfl, hf19⟩
        have hop := ledS_open (HE2.out.2.1.fr0 hf19) 1
        rw [HE2.out.2.2] at hop
        have HN := Lib.hid (And.intro hop (HE2.out.2.1.fr0 hf19).fr)
        clear hop hf19
        go_wp2_with fail
        refine HN.out.1.mono ?_
        rintro e w19 ⟨rfl, rfl⟩
        go_wp2_with fail
        go_ret
        exact ⟨rfl, HN.out.2⟩
    · rw [decide_eq_false hkt]
      have hkey : ¬ Wb.key = Wa.key := fun e => hkt (H10.out.2.2.1.1 (by first | exact e | exact e.symm))
      rw [if_neg hkey] at hform
      have H11 := Lib.hid (And.intro hS11 (And.intro hform hkey))
      clear hS11 hform hkey hkt hf11 hg11
      go_wp2_with fail
      refine hK.out _ _ ?_
      clear hK K
      cases together with
      | true =>
        go_wp2_with fail
        have hfa : Fr No w11 (w11.alloc (.cells #[.int .i64 2, .int .i64 1] 3)) := (Fr.refl No w11).alloc _
        have hgrp := ledS_group (ids := [2, 1]) (n := 2) (ci := 2) (R := fun i => i = w11.heap.size) (H11.out.1.more hfa) H10.out.2.1 (by decide) (ids_two rfl (heap_alloc_new w11 _)) (fun i hi => .inr ⟨Nat.le_of_eq hi.symm, by rw [show i = w11.heap.size from hi]; simp⟩) rfl (Nat.le_refl 2) (by decide)
        rw [H11.out.2.1] at hgrp
        have HG := Lib.hid hgrp
        clear hgrp hfa
        refine HG.out.mono ?_
        rintro e w13 ⟨Ao', co', ys, rfl, hOe, hperm, hrise, hS13, hf13⟩
        have hfb : Fr No w13 (w13.alloc (.cells #[.int .i64 0, .int .i64 0] 24)) := (Fr.refl No w13).alloc _
        have herr := errs_ok (n := 2) (m := 2) (c := co') (d := 2) (hOe.rd.2.2.fr0 hfb) (rd_ints2 (heap_alloc_new w13 (.cells #[.int .i64 0, .int .i64 0] 24))) rfl rfl (show 2 ≤ 1000 by decide) (by decide)
        rw [decide_eq_true (show ([0, 0] : List Int) = [0, 0] from rfl)] at herr
        have hne : ys ≠ [] := fun e => by rw [e] at hperm; have := hperm.length_eq; simp at this
        have hnow : ((twoL T Wa Wb).publish ys [2, 1]).s.now = 1 := by rw [publish_now _ _ _ hne]; rfl
        have HE := Lib.hid (And.intro herr (And.intro (hS13.fr0 hfb) hnow))
        clear herr hfb hne hnow hOe hperm hrise hS13 hf13
        go_wp2_with fail
        refine HE.out.1.mono ?_
        rintro e w15 ⟨rfl, hf15⟩
        have hN := ledS_now (HE.out.2.1.fr0 hf15)
        rw [HE.out.2.2] at hN
        have HN := Lib.hid (And.intro hN (HE.out.2.1.fr0 hf15).fr)
        clear hN hf15
        go_wp2_with fail
        refine HN.out.1.mono ?_
        rintro e w15 ⟨rfl, rfl⟩
        go_wp2_with fail
        go_ret
        exact ⟨rfl, HN.out.2⟩
      | false =>
        go_wp2_with fail
        have hfa : Fr No w11 (w11.alloc (.cells #[.int .i64 2] 3)) := (Fr.refl No w11).alloc _
        have hgrp := ledS_group (ids := [2]) (n := 1) (ci := 1) (R := fun i => i = w11.heap.size) (H11.out.1.more hfa) H10.out.2.1 (by decide) (ids_one' rfl (heap_alloc_new w11 _)) (fun i hi => .inr ⟨Nat.le_of_eq hi.symm, by rw [show i = w11.heap.size from hi]; simp⟩) rfl (Nat.le_refl 1) (by decide)
        rw [two_form1 HP.out, HPK.out.1] at hgrp
        have HG := Lib.hid hgrp
        clear hgrp hfa
        refine HG.out.mono ?_
        rintro e w13 ⟨Ao', co', ys, rfl, hOe, hperm, hrise, hS13, hf13⟩
        obtain rfl : ys = [Wb] := List.perm_singleton.1 hperm
        have hfb : Fr No w13 (w13.alloc (.cells #[.int .i64 0] 24)) := (Fr.refl No w13).alloc _
        have herr := errs_ok (n := 1) (m := 1) (c := co') (d := 1) (hOe.rd.2.2.fr0 hfb) (rd_ints1 (heap_alloc_new w13 (.cells #[.int .i64 0] 24))) rfl rfl (show 1 ≤ 1000 by decide) (by decide)
        rw [decide_eq_true (show ([0] : List Int) = [0] from rfl)] at herr
        have hok5 := Led.Ok.publish (m := 4) (ws := [Wb]) H10.out.2.1 (by show Rising []; simp [Rising]) [2] (fun _ => right_rise (n := 1) (by decide) (by simp) (show 1 ≤ 64 by decide) (by simp [Rising]) (fun x hx => by obtain rfl : x = Wb := List.mem_singleton.1 hx; first | exact H10.out.2.2.2.2.1 | exact H10.out.2.2.2.2.2.1))
        have HE := Lib.hid (And.intro herr (And.intro (hS13.fr0 hfb) hok5))
        clear herr hfb hOe hperm hrise hS13 hf13 hok5
        go_wp2_with fail
        refine HE.out.1.mono ?_
        rintro e w15 ⟨rfl, hf15⟩
        have hS15 := HE.out.2.1.fr0 hf15
        have hfa : Fr No w15 (w15.alloc (.cells #[.int .i64 1] 3)) := (Fr.refl No w15).alloc _
        have hgrp := ledS_group (ids := [1]) (n := 1) (ci := 1) (R := fun i => i = w15.heap.size) (hS15.more hfa) HE.out.2.2 (by decide) (ids_one' rfl (heap_alloc_new w15 _)) (fun i hi => .inr ⟨Nat.le_of_eq hi.symm, by rw [show i = w15.heap.size from hi]; simp⟩) rfl (Nat.le_refl 1) (by decide)
        have hform := two_form3 (T := T) (W1 := Wa) (W2 := Wb) HP.out
        rw [HPK.out.1, HPK.out.2] at hform
        rw [if_neg H11.out.2.2] at hform
        rw [hform] at hgrp
        have HG2 := Lib.hid hgrp
        clear hgrp hfa hform hS15 hf15
        go_wp2_with fail
        refine HG2.out.mono ?_
        rintro e w17 ⟨Ao2, co2, ys2, rfl, hOe, hperm, hrise, hS17, hf17⟩
        have hfb : Fr No w17 (w17.alloc (.cells #[.int .i64 0] 24)) := (Fr.refl No w17).alloc _
        have herr := errs_ok (n := 1) (m := 1) (c := co2) (d := 1) (hOe.rd.2.2.fr0 hfb) (rd_ints1 (heap_alloc_new w17 (.cells #[.int .i64 0] 24))) rfl rfl (show 1 ≤ 1000 by decide) (by decide)
        rw [decide_eq_true (show ([0] : List Int) = [0] from rfl)] at herr
        have hfind : (((twoL T Wa Wb).publish [Wb] [2]).publish ys2 [1]).find 1 = none := by rw [find_publish, if_pos (by simp)]
        have HE2 := Lib.hid (And.intro herr (And.intro (hS17.fr0 hfb) hfind))
        clear herr hfb hOe hperm hrise hS17 hf17 hfind
        go_wp2_with fail
        refine HE2.out.1.mono ?_
        rintro e w19 ⟨rfl, hf19⟩
        have hop := ledS_open (HE2.out.2.1.fr0 hf19) 1
        rw [HE2.out.2.2] at hop
        have HN := Lib.hid (And.intro hop (HE2.out.2.1.fr0 hf19).fr)
        clear hop hf19
        go_wp2_with fail
        refine HN.out.1.mono ?_
        rintro e w19 ⟨rfl, rfl⟩
        go_wp2_with fail
        go_ret
        exact ⟨rfl, HN.out.2⟩
end Go.Proofs.YtlmhphejgahfbaaGreatDoor
