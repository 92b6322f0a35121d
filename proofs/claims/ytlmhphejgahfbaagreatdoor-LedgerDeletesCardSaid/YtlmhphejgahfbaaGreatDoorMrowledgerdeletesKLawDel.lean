/- Layer 15: LedgerDeletes: what is deleted isn't there. -/
import Derived.Test.YtlmhphejgahfbaaGreatDoorMrowledgerdeletesKOnce
import Derived.Test.YtlmhphejgahfbaaGreatDoorMrowledgerdeletes34
import Derived.Test.YtlmhphejgahfbaaGreatDoorMrowledgerdeletes12
import Derived.Test.YtlmhphejgahfbaaGreatDoorMrowledgerdeletes34
import Derived.Test.YtlmhphejgahfbaaGreatDoorMrowledgerdeletes42
set_option linter.unusedVariables false
set_option linter.unusedSimpArgs false
namespace Go.Proofs.YtlmhphejgahfbaaGreatDoor
open Go.RowKit

set_option maxHeartbeats 8000000 in
set_option maxRecDepth 100000 in
theorem law_deletes {w : World} {R1 R2 : Nat → Prop} {A1 A2 : Option Addr} {c1 c2 : Nat} {l : List Frm} {t : UInt8} {a : Bs} (h1 : Rd tFrm w R1 A1 l) (hc1 : l.length ≤ c1) (h2 : Rd Ty.u8 w R2 A2 a) (hc2 : a.length ≤ c2) (hk : KAt w) :
    Calls Tryz.prog 5 #[.slice A1 l.length c1, .int .u8 (t.toNat : Int), .slice A2 a.length c2] w fun e w' => e = .returned (.bool true) ∧ Fr No w w' := by
  have hO := fun (w1 : World) (f : Fr No w w1) => once_ok (hk.fr0 f)
  have hsm := fun (w1 : World) (f : Fr No w w1) => small_ok (c := c1) (h1.fr0 f) rfl
  have ha63 : (a.length : Int) ≤ 9223372036854775807 := by have := h2.1; omega
  have HO := Lib.hid (And.intro hO (And.intro hsm (Fr.refl No w)))
  have HA := Lib.hid (And.intro h1 (And.intro hc1 (And.intro h2 (And.intro hc2 hk))))
  clear hO hsm h1 hc1 h2 hc2 hk
  obtain ⟨n1, hn1⟩ : ∃ n, l.length = n := ⟨_, rfl⟩
  obtain ⟨n2, hn2⟩ : ∃ n, a.length = n := ⟨_, rfl⟩
  have HL := Lib.hid (And.intro hn1 hn2)
  rw [hn1] at HO
  rw [hn2] at ha63
  rw [hn1, hn2]
  clear hn1 hn2
  by_cases ha9 : 9 < n2
  · have ha9i : (9 : Int) < (n2 : Int) := by omega
    clear ha9
    go_enter Tryz.func5, Tryz.ntmps5
    go_wp2_with fail
    refine (HO.out.1 _ HO.out.2.2).mono ?_
    rintro e w1 ⟨rfl, hf1⟩
    have H1 := Lib.hid hf1
    clear hf1
    go_wp2_with fail
    refine (HO.out.1 _ H1.out).mono ?_
    rintro e w2 ⟨rfl, hf2⟩
    have H2 := Lib.hid (H1.out.next hf2 (fun _ _ f => f.elim))
    clear hf2
    go_wp2_with fail
    go_ret
    exact ⟨rfl, H2.out⟩
  have ha9i : (n2 : Int) ≤ 9 := by omega
  clear ha9
  by_cases hs : smallF l = false
  · rw [hs] at HO
    clear hs
    go_enter Tryz.func5, Tryz.ntmps5
    go_wp2_with fail
    refine (HO.out.1 _ HO.out.2.2).mono ?_
    rintro e w1 ⟨rfl, hf1⟩
    have H1 := Lib.hid hf1
    clear hf1
    go_wp2_with fail
    refine (HO.out.2.1 _ H1.out).mono ?_
    rintro e w2 ⟨rfl, hf2⟩
    have H2 := Lib.hid (H1.out.next hf2 (fun _ _ f => f.elim))
    clear hf2
    go_wp2_with fail
    refine (HO.out.1 _ H2.out).mono ?_
    rintro e w3 ⟨rfl, hf3⟩
    have H3 := Lib.hid (H2.out.next hf3 (fun _ _ f => f.elim))
    clear hf3
    go_wp2_with fail
    go_ret
    exact ⟨rfl, H3.out⟩
  have hs' : smallF l = true := by simpa using hs
  rw [hs'] at HO
  have hT := fun (w1 : World) (f : Fr No w w1) => tables_ok (c := c1) (HA.out.1.fr0 f) HA.out.2.1 (small_few hs').1 (small_few hs').2
  have hTok := tabsF_ok l
  have hT1 := hTok.some
  have hT4 := hTok.most
  rw [HL.out.1] at hT
  obtain ⟨T, hTe⟩ : ∃ T, tabsF l = T := ⟨_, rfl⟩
  rw [hTe] at hT hTok hT1 hT4
  obtain ⟨nT, hnT⟩ : ∃ nT, T.length = nT := ⟨_, rfl⟩
  rw [hnT] at hT hT1 hT4
  have hnT1 : (1 : Int) ≤ (nT : Int) := by omega
  have hnT4 : (nT : Int) ≤ 4 := by omega
  have hnT0 : ¬ ((nT : Int) = 0) := by omega
  obtain ⟨k, hke⟩ : ∃ k, t.toNat % nT = k := ⟨_, rfl⟩
  have hkn : k < nT := by rw [← hke]; exact Nat.mod_lt _ (by omega)
  have hki : (k : Int) < (nT : Int) := by omega
  have hk0 : (0 : Int) ≤ (k : Int) := Int.natCast_nonneg _
  have ht0 : (0 : Int) ≤ (t.toNat : Int) := Int.natCast_nonneg _
  have ht256 : (t.toNat : Int) < 256 := by have := t.toNat_lt; omega
  have hkm : (t.toNat : Int).tmod (nT : Int) = (k : Int) := by rw [Int.tmod_eq_emod_of_nonneg (by omega), ← hke]; rfl
  have HT := Lib.hid (And.intro hT (And.intro hTok (And.intro hnT hkn)))
  clear hT hTok hT1 hT4 hnT hke hkn hs hs' hTe
  go_enter Tryz.func5, Tryz.ntmps5
  go_wp2_with fail
  refine (HO.out.1 _ HO.out.2.2).mono ?_
  rintro e w1 ⟨rfl, hf1⟩
  have H1 := Lib.hid hf1
  clear hf1
  go_wp2_with fail
  refine (HO.out.2.1 _ H1.out).mono ?_
  rintro e w2 ⟨rfl, hf2⟩
  have H2 := Lib.hid (H1.out.next hf2 (fun _ _ f => f.elim))
  clear hf2
  go_wp2_with fail
  refine (HT.out.1 _ H2.out).mono ?_
  rintro e w3 ⟨Ao, co, rfl, hO3, hf3⟩
  have hf03 : Fr No w w3 := H2.out.next hf3 (fun _ _ f => f.elim)
  have hc3 := hO3.rd.2.1
  have hR3 : Rd tTab w3 (fun i => w.heap.size ≤ i ∧ i < w3.heap.size) Ao T := hO3.rd.2.2.mono fun i hi hl => ⟨Nat.le_trans H2.out.size hi, hl⟩
  have hnew := ledS_new (c := co) (n := nT) hf03 hR3 (fun i hi => hi.1) HT.out.2.1 HT.out.2.2.1.symm hc3 HA.out.2.2.2.2
  have H3 := Lib.hid (And.intro hnew (And.intro hR3 (And.intro hf03 hc3)))
  clear hnew hR3 hf03 hc3 hO3 hf3
  go_wp2_with fail
  refine H3.out.1.mono ?_
  rintro e w6 ⟨lb, rfl, hS6, hf6⟩
  have hR6 := H3.out.2.1.fr0 hf6
  have hkT : k < T.length := by rw [HT.out.2.2.1]; exact HT.out.2.2.2
  obtain ⟨ad, RR, cc, rfl, y0, y1, y2, hcc, hcol⟩ := tab_at hR6 hkT
  have hTk := HT.out.2.1.each T[k] (List.getElem_mem hkT)
  obtain ⟨ksz, hksz⟩ : ∃ ksz : Nat, T[k].2.2 = (ksz : Int) := Int.eq_ofNat_of_zero_le (show 0 ≤ T[k].2.2 by have := hTk.keys; omega)
  have hrowA := fit_row HT.out.2.1 hkT hksz a
  have hshA := fit_short HT.out.2.1 hkT hksz a
  have hfitA := fun (w1 : World) (f : Fr No w6 w1) => fit_ok (nm := T[k].1) (ks := (ksz : Int)) (cr := cc) (c := c2) (n := T[k].2.1.length) (hcol.fr0 f) ((HA.out.2.2.1.fr0 hS6.fr).fr0 f) rfl rfl (Nat.le_refl _) hTk.most
  rw [hksz] at y2
  rw [HL.out.2] at hfitA
  have hksn := hTk.fit
  have hm8 := hTk.most
  have hksz2 := hksz
  rw [hksz] at hksn
  obtain ⟨tk, htk⟩ : ∃ tk, T[k] = tk := ⟨_, rfl⟩
  rw [htk] at y0 y1 hfitA hrowA hshA hcol hcc hksn hm8
  obtain ⟨nm, cols, kz⟩ := tk
  dsimp only at y0 y1 hfitA hrowA hshA hcol hcc hksn hm8
  obtain ⟨nc, hnc⟩ : ∃ nc, cols.length = nc := ⟨_, rfl⟩
  rw [hnc] at y1 hfitA hrowA hshA hcc hksn hm8
  have H6 := Lib.hid (And.intro hS6 (And.intro hR6 hfitA))
  have HR := Lib.hid (And.intro hrowA (And.intro hshA (And.intro hnc hksz2)))
  have HF := Lib.hid (Fr.refl No w6)
  clear hS6 hf6 hR6 hfitA hrowA hshA hcol htk hnc hTk hksz hksz2
  go_wp2_with fail
  refine wp_region_tail 12 (fun w' => w'.cell? (ad.add (k * 3)) = some (.string nm) ∧ w'.cell? ⟨(ad.add (k * 3)).block, (ad.add (k * 3)).off + 1, none⟩ = some (.slice RR nc cc) ∧ w'.cell? ⟨(ad.add (k * 3)).block, (ad.add (k * 3)).off + 2, none⟩ = some (.int .i64 (ksz : Int))) (by kernel_rfl) (by exact ⟨y0, y1, y2⟩) (fun hHeld => ?_)
  refine WalkTail.take (i := 0) (v := ?va0) rfl (by kernel_rfl) (fun _ _ _ h => h) (Or.inl ⟨by rfl, ?hya0⟩) (by assumption) ?_
  case hya0 => (intro w hSw; (try dsimp only at hSw); go_simp; try with_reducible rfl)
  (try simp only [Act.put, List.setIfInBounds_toArray, List.set_cons_zero, List.set_cons_succ])
  refine WalkTail.take (i := 1) (v := ?va1) rfl (by kernel_rfl) (fun _ _ _ h => h) (Or.inl ⟨by rfl, ?hya1⟩) (by assumption) ?_
  case hya1 => (intro w hSw; (try dsimp only at hSw); go_simp; try with_reducible rfl)
  (try simp only [Act.put, List.setIfInBounds_toArray, List.set_cons_zero, List.set_cons_succ])
  refine WalkTail.take (i := 2) (v := ?va2) rfl (by kernel_rfl) (fun _ _ _ h => h) (Or.inl ⟨by rfl, ?hya2⟩) (by assumption) ?_
  case hya2 => (intro w hSw; (try dsimp only at hSw); go_simp; try with_reducible rfl)
  (try simp only [Act.put, List.setIfInBounds_toArray, List.set_cons_zero, List.set_cons_succ])
  refine WalkTail.take (i := 3) (v := ?va3) rfl (by kernel_rfl) (fun _ _ _ h => h) (Or.inl ⟨by rfl, ?hya3⟩) (by assumption) ?_
  case hya3 => (intro w hSw; (try dsimp only at hSw); go_simp; try with_reducible rfl)
  (try simp only [Act.put, List.setIfInBounds_toArray, List.set_cons_zero, List.set_cons_succ])
  refine WalkTail.take (i := 4) (v := ?va4) rfl (by kernel_rfl) (fun _ _ _ h => h) (Or.inl ⟨by rfl, ?hya4⟩) (by assumption) ?_
  case hya4 => (intro w hSw; (try dsimp only at hSw); go_simp; try with_reducible rfl)
  (try simp only [Act.put, List.setIfInBounds_toArray, List.set_cons_zero, List.set_cons_succ])
  refine WalkTail.take (i := 5) (v := ?va5) rfl (by kernel_rfl) (fun _ _ _ h => h) (Or.inl ⟨by rfl, ?hya5⟩) (by assumption) ?_
  case hya5 => (intro w hSw; (try dsimp only at hSw); go_simp; try with_reducible rfl)
  (try simp only [Act.put, List.setIfInBounds_toArray, List.set_cons_zero, List.set_cons_succ])
  refine WalkTail.take (i := 6) (v := ?va6) rfl (by kernel_rfl) (fun _ _ _ h => h) (Or.inl ⟨by rfl, ?hya6⟩) (by assumption) ?_
  case hya6 => (intro w hSw; (try dsimp only at hSw); go_simp; try with_reducible rfl)
  (try simp only [Act.put, List.setIfInBounds_toArray, List.set_cons_zero, List.set_cons_succ])
  refine WalkTail.take (i := 7) (v := ?va7) rfl (by kernel_rfl) (fun _ _ _ h => h) (Or.inl ⟨by rfl, ?hya7⟩) (by assumption) ?_
  case hya7 => (intro w hSw; (try dsimp only at hSw); go_simp; try with_reducible rfl)
  (try simp only [Act.put, List.setIfInBounds_toArray, List.set_cons_zero, List.set_cons_succ])
  refine WalkTail.take (i := 8) (v := ?va8) rfl (by kernel_rfl) (fun _ _ _ h => h) (Or.inl ⟨by rfl, ?hya8⟩) (by assumption) ?_
  case hya8 => (intro w hSw; (try dsimp only at hSw); go_simp; try with_reducible rfl)
  (try simp only [Act.put, List.setIfInBounds_toArray, List.set_cons_zero, List.set_cons_succ])
  refine WalkTail.take (i := 9) (v := ?va9) rfl (by kernel_rfl) (fun _ _ _ h => h) (Or.inl ⟨by rfl, ?hya9⟩) (by assumption) ?_
  case hya9 => (intro w hSw; (try dsimp only at hSw); go_simp; try with_reducible rfl)
  (try simp only [Act.put, List.setIfInBounds_toArray, List.set_cons_zero, List.set_cons_succ])
  refine WalkTail.take (i := 10) (v := ?va10) rfl (by kernel_rfl) (fun _ _ _ h => h) (Or.inl ⟨by rfl, ?hya10⟩) (by assumption) ?_
  case hya10 => (intro w hSw; (try dsimp only at hSw); go_simp; try with_reducible rfl)
  (try simp only [Act.put, List.setIfInBounds_toArray, List.set_cons_zero, List.set_cons_succ])
  refine WalkTail.one (i := 11) rfl (by kernel_rfl) (by decide) (fun K hK => ?_)
  go_simp
  go_at_call 22
  refine (H6.out.2.2 _ (by repeat (first | exact HF.out | apply Fr.drew | apply Fr.drewN))).mono ?_
  rintro e7 w7 ⟨A7, c7, rfl, hO7, hf7⟩
  have hg7 : Fr No w6 w7 := Fr.next (G := No) (by repeat (first | exact HF.out | apply Fr.drew | apply Fr.drewN)) hf7 (fun _ _ f => f.elim)
  have y0 := hg7.cell y0 (fun f => f)
  have y1 := hg7.cell y1 (fun f => f)
  have y2 := hg7.cell y2 (fun f => f)
  have hS7 := H6.out.1.more hg7
  obtain ⟨KS, hKe⟩ : ∃ KS : Nat → Prop, (fun i => i < w3.heap.size ∨ (w6.heap.size ≤ i ∧ i < w7.heap.size)) = KS := ⟨_, rfl⟩
  have hK6 : ∀ i, (w6.heap.size ≤ i ∧ i < w7.heap.size) → KS i := fun i hi => by rw [← hKe]; exact .inr hi
  rw [hKe] at hS7
  have hR7 : Rd tVal w7 (fun i => w6.heap.size ≤ i ∧ i < w7.heap.size) A7 (fit cols a nc) := (hO7.rd.2.2).mono fun i hi hl => ⟨hi, hl⟩
  have hksl : ksz ≤ nc := by omega
  have hcc7 := hO7.rd.2.1
  obtain ⟨A8, hsl8, htk8⟩ := cut_hi (P := Tryz.prog) tVal 36 35 .i64 Tryz.underlying36 (by kernel_rfl) A7 nc c7 ksz hksl hcc7
  have hR8 := htk8 w7 _ _ (fit_len _ _ _) hR7
  have hbeg := ledS_begin hS7 (Led.Ok.new HT.out.2.1 4) (by decide)
  rw [show (Led.new T).next + 1 = 1 from rfl] at hbeg
  have H7 := Lib.hid (And.intro hbeg (And.intro hR7 (And.intro hR8 (And.intro hcc7 hK6))))
  clear hbeg hR7 hR8 hS7 hKe htk8 hO7 hf7 hg7 hK6
  go_wp2_with fail
  refine hK.out _ _ ?_ (fun hHeld => ?_)
  · exact ⟨y0, y1, y2⟩
  clear hK K
  (try simp only [Act.put, List.setIfInBounds_toArray, List.set_cons_zero, List.set_cons_succ])
  refine WalkTail.last rfl (by kernel_rfl) (by kernel_rfl) (fun K hK => ?_)
  go_simp
  refine hK.out _ _ ?_
  clear hK K y0 y1
  have y2 : w7.cell? _ = _ := y2
  go_wp2_with fail
  clear y2
  obtain ⟨row, hrw⟩ : ∃ row, fit cols a nc = row := ⟨_, rfl⟩
  have hrl : row.length = nc := by rw [← hrw]; exact fit_len _ _ _
  have hdec : ∀ v ∈ row, DecV v := fun v hv => fitAll_dec (fit_mem (by rw [hrw]; exact hv))
  have H7' := H7.out
  have hrowF := HR.out.1
  have hsh := HR.out.2.1
  rw [hrw] at H7' hrowF hsh
  obtain ⟨ky, hky⟩ : ∃ ky, keyS k (row.take ksz) = ky := ⟨_, rfl⟩
  have hrW : rowW k ksz row = ⟨ky, packB row, false⟩ := by rw [← hky]; rfl
  rw [hrW] at hsh
  have hsh : 1 ≤ ky.size ∧ ky.size ≤ 1000 ∧ (packB row).length ≤ 4000 := ⟨hsh.1, hsh.2.1, hsh.2.2.1⟩
  have hkn8 : row.length ≤ 8 := by omega
  have hkl : ksz = (row.take ksz).length := by rw [List.length_take]; omega
  have HW := Lib.hid (And.intro hrowF (And.intro hsh (And.intro hky (And.intro hrW (And.intro hdec (And.intro hrl (And.intro hkl (And.intro hkn8 (And.intro H7'.2.2.2.1 H7'.2.2.2.2)))))))))
  have HB := Lib.hid (And.intro H7'.1 (And.intro H7'.2.1 H7'.2.2.1))
  clear H7' H7 hrowF hsh hky hrW hdec hrl hrw hkn8 hkl HR HF H6
  obtain ⟨hrowF, hsh, hky, hrW, hdec, hrl, hkl, hkn8, hcc7', hKS⟩ := HW.out
  refine HB.out.1.mono ?_
  rintro e w8 ⟨rfl, hS8, hf8⟩
  have hR8 := HB.out.2.1.fr hf8 (fun i hi e => e.2 (hKS i hi))
  have hk8 := HB.out.2.2.fr hf8 (fun i hi e => e.2 (hKS i hi))
  have hok1 : (Led.new T).begin_.Ok 1 := (Led.Ok.new HT.out.2.1 1).begin_ (show (0 : Int) + 1 ≤ 1 by decide)
  have hdel := ledS_delete_none (id := 1) (x := ⟨1, 0, []⟩) (c' := c7) hS8 hok1 (by decide) rfl hrowF.key hk8 hkl (by rw [sees_empty]; rfl)
  have H8 := Lib.hid (And.intro hdel (And.intro hS8 (And.intro hR8 (And.intro hk8 hok1))))
  clear hdel hS8 hR8 hk8 hok1 hf8 hrowF hsh hky hrW hdec hrl hkl hkn8 hcc7' hKS
  go_wp2_with fail
  refine H8.out.1.mono ?_
  rintro e w9 ⟨rfl, hf9⟩
  have hS9 := H8.out.2.1.fr0 hf9
  have hR9 := H8.out.2.2.1.fr0 hf9
  have hk9 := H8.out.2.2.2.1.fr0 hf9
  have hput := ledS_put (id := 1) (x := ⟨1, 0, []⟩) (t := k) (k := ksz) (n := nc) (c' := c7) hS9 H8.out.2.2.2.2 rfl HW.out.1 hR9 HW.out.2.2.2.2.2.1.symm HW.out.2.2.2.2.2.2.2.2.1
  rw [HW.out.2.2.2.1] at hput
  rw [show (wwrite ([] : List Wr) (⟨ky, packB row, false⟩ : Wr)).2 = 0 from rfl, show (wwrite ([] : List Wr) (⟨ky, packB row, false⟩ : Wr)).1 = [⟨ky, packB row, false⟩] from rfl] at hput
  have hok2 : ((Led.new T).begin_.setTx 1 [⟨ky, packB row, false⟩]).Ok 1 := H8.out.2.2.2.2.setTx ⟨(show 1 ≤ 20 by decide), fun y hy => by obtain rfl : y = _ := List.mem_singleton.1 hy; exact ⟨HW.out.2.1.1, HW.out.2.1.2.1, HW.out.2.1.2.2, fun e => by cases e⟩⟩ (by simp [Rising])
  have H9 := Lib.hid (And.intro hput (And.intro hk9 hok2))
  clear hput hS9 hR9 hk9 hok2 hf9
  go_wp2_with fail
  refine H9.out.1.mono ?_
  rintro e w10 ⟨rfl, hS10, hf10⟩
  have hk10 := H9.out.2.1.fr hf10 (fun i hi e => e.2 (HW.out.2.2.2.2.2.2.2.2.2 i hi))
  have H10 := Lib.hid (And.intro hS10 (And.intro hk10 H9.out.2.2))
  clear hS10 hk10 hf10
  go_wp2_with fail
  have hfa : Fr No w10 (w10.alloc (.cells #[.int .i64 1] 3)) := (Fr.refl No w10).alloc _
  have hgrp := ledS_group (ids := [1]) (n := 1) (ci := 1) (R := fun i => i = w10.heap.size) (H10.out.1.more hfa) H10.out.2.2 (by decide) (ids_one' rfl (heap_alloc_new w10 _)) (fun i hi => .inr ⟨Nat.le_of_eq hi.symm, by rw [show i = w10.heap.size from hi]; simp⟩) rfl (Nat.le_refl 1) (by decide)
  rw [del_first] at hgrp
  have hk10' := H10.out.2.1.fr0 hfa
  have HG := Lib.hid (And.intro hgrp (And.intro hk10' hfa.size))
  clear hgrp hfa hk10'
  refine HG.out.1.mono ?_
  rintro e w11 ⟨Ao, co, ys, rfl, hOe, hperm, hrise, hS11, hf11⟩
  obtain rfl : ys = [⟨ky, packB row, false⟩] := List.perm_singleton.1 hperm
  have hk11 := HG.out.2.1.fr hf11 (fun i hi e => e.2 (.inl (HW.out.2.2.2.2.2.2.2.2.2 i hi)))
  have hok3 := Led.Ok.publish (m := 1) (ws := [⟨ky, packB row, false⟩]) H10.out.2.2 (by show Rising []; simp [Rising]) [1] (fun _ => right_rise (n := 1) (by decide) (by simp) (show 1 ≤ 64 by decide) (by simp [Rising]) (fun x hx => by obtain rfl : x = _ := List.mem_singleton.1 hx; exact ⟨HW.out.2.1.1, by have := HW.out.2.1.2.1; show ky.size ≤ 4000; omega, HW.out.2.1.2.2, fun e => by cases e⟩))
  obtain ⟨sts, hsts⟩ := del3 T ky (packB row)
  rw [hsts] at hS11 hok3
  obtain ⟨ao, rfl, hao⟩ := int_first hOe
  have hbeg := ledS_begin hS11 hok3 (by decide)
  rw [show (⟨T, stoA ky (packB row), [], 1, sts⟩ : Led).next + 1 = 2 from rfl] at hbeg
  have H11 := Lib.hid (And.intro hbeg (And.intro hk11 hok3))
  clear hbeg hk11 hok3 hS11 hf11 hOe hperm hrise hsts
  go_wp2_with fail
  clear hao
  refine H11.out.1.mono ?_
  rintro e w12 ⟨rfl, hS12, hf12⟩
  have hk12 := H11.out.2.1.fr hf12 (fun i hi e => e.2 (.inl (HW.out.2.2.2.2.2.2.2.2.2 i hi)))
  have hok4 := H11.out.2.2.begin_ (show (1 : Int) + 1 ≤ 1 + 64 by decide)
  have hbeg := ledS_begin hS12 hok4 (by decide)
  rw [show (⟨T, stoA ky (packB row), [], 1, sts⟩ : Led).begin_.next + 1 = 3 from rfl] at hbeg
  have hok5 := hok4.begin_ (show (2 : Int) + 1 ≤ 1 + 64 by decide)
  have H12 := Lib.hid (And.intro hbeg (And.intro hk12 hok5))
  clear hbeg hk12 hok4 hok5 hS12 hf12
  go_wp2_with fail
  refine H12.out.1.mono ?_
  rintro e w13 ⟨rfl, hS13, hf13⟩
  have hk13 := H12.out.2.1.fr hf13 (fun i hi e => e.2 (.inl (HW.out.2.2.2.2.2.2.2.2.2 i hi)))
  have hdel := ledS_delete_some (id := 2) (x := ⟨2, 1, []⟩) (c' := c7) hS13 H12.out.2.2 (by decide) rfl HW.out.1.key hk13 HW.out.2.2.2.2.2.2.1 (by rw [sees_empty, HW.out.2.2.1]; exact stoA_get _ _)
  rw [HW.out.2.2.1] at hdel
  rw [show (wwrite ([] : List Wr) (⟨ky, [], true⟩ : Wr)).2 = 0 from rfl, show (wwrite ([] : List Wr) (⟨ky, [], true⟩ : Wr)).1 = [⟨ky, [], true⟩] from rfl, del4] at hdel
  have hok6 : ((⟨T, stoA ky (packB row), [], 1, sts⟩ : Led).begin_.begin_.setTx 2 [⟨ky, [], true⟩]).Ok (1 + 64) := H12.out.2.2.setTx ⟨(show 1 ≤ 20 by decide), fun y hy => by obtain rfl : y = _ := List.mem_singleton.1 hy; exact ⟨HW.out.2.1.1, HW.out.2.1.2.1, show 0 ≤ 4000 by decide, fun _ => rfl⟩⟩ (by simp [Rising])
  rw [del4] at hok6
  have H13 := Lib.hid (And.intro hdel (And.intro hk13 hok6))
  clear hdel hk13 hok6 hS13 hf13
  go_wp2_with fail
  refine H13.out.1.mono ?_
  rintro e w14 ⟨rfl, hS14, hf14⟩
  have hk14 := H13.out.2.1.fr hf14 (fun i hi e => e.2 (.inl (HW.out.2.2.2.2.2.2.2.2.2 i hi)))
  have hdel := ledS_delete_none (id := 2) (x := ⟨2, 1, [⟨ky, [], true⟩]⟩) (c' := c7) hS14 H13.out.2.2 (by decide) rfl HW.out.1.key hk14 HW.out.2.2.2.2.2.2.1 (by rw [HW.out.2.2.1]; exact sees_gone)
  have H14 := Lib.hid (And.intro hdel (And.intro hk14 hS14))
  clear hdel hk14 hS14 hf14
  go_wp2_with fail
  refine H14.out.1.mono ?_
  rintro e w15 ⟨rfl, hf15⟩
  have hS15 := H14.out.2.2.fr0 hf15
  have hk15 := H14.out.2.1.fr0 hf15
  have hget := ledS_get_none (id := 2) (x := ⟨2, 1, [⟨ky, [], true⟩]⟩) (c' := c7) hS15 H13.out.2.2 (by decide) rfl HW.out.1.key hk15 HW.out.2.2.2.2.2.2.1 (by rw [HW.out.2.2.1]; exact sees_gone)
  have H15 := Lib.hid (And.intro hget (And.intro hk15 hS15))
  clear hget hk15 hS15 hf15
  go_wp2_with fail
  refine H15.out.1.mono ?_
  rintro e w16 ⟨rfl, hf16⟩
  have hS16 := H15.out.2.2.fr0 hf16
  have hk16 := H15.out.2.1.fr0 hf16
  have hget := ledS_get_some (id := 3) (x := ⟨3, 1, []⟩) (row := row) (c' := c7) hS16 H13.out.2.2 (by decide) rfl HW.out.1.key hk16 HW.out.2.2.2.2.2.2.1 (by rw [sees_empty, HW.out.2.2.1]; exact stoA_get _ _) HW.out.2.2.2.2.2.2.2.1 HW.out.2.2.2.2.1 (Nat.le_trans HW.out.2.1.2.2 (by decide))
  have H16 := Lib.hid (And.intro hget (And.intro hk16 hS16))
  clear hget hk16 hS16 hf16
  go_wp2_with fail
  refine H16.out.1.mono ?_
  rintro e w17 ⟨A17, c17, rfl, _, hf17⟩
  have hS17 := H16.out.2.2.fr0 hf17
  have hk17 := H16.out.2.1.fr0 hf17
  have H17 := Lib.hid (And.intro hS17 hk17)
  clear hS17 hk17 hf17
  go_wp2_with fail
  have hfa : Fr No w17 (w17.alloc (.cells #[.int .i64 2] 3)) := (Fr.refl No w17).alloc _
  have hgrp := ledS_group (ids := [2]) (n := 1) (ci := 1) (R := fun i => i = w17.heap.size) (H17.out.1.more hfa) H13.out.2.2 (by decide) (ids_one' rfl (heap_alloc_new w17 _)) (fun i hi => .inr ⟨Nat.le_of_eq hi.symm, by rw [show i = w17.heap.size from hi]; simp⟩) rfl (Nat.le_refl 1) (by decide)
  rw [del_late] at hgrp
  have hk17' := H17.out.2.fr0 hfa
  have HG2 := Lib.hid (And.intro hgrp hk17')
  clear hgrp hfa hk17'
  refine HG2.out.1.mono ?_
  rintro e w18 ⟨Ao2, co2, ys2, rfl, hOe, hperm, hrise, hS18, hf18⟩
  obtain rfl : ys2 = [⟨ky, [], true⟩] := List.perm_singleton.1 hperm
  have hk18 := HG2.out.2.fr hf18 (fun i hi e => e.2 (.inl (.inl (HW.out.2.2.2.2.2.2.2.2.2 i hi))))
  have hok7 := Led.Ok.publish (m := 1 + 64) (ws := [⟨ky, [], true⟩]) H13.out.2.2 (by show Rising [ky]; simp [Rising]) [2] (fun _ => right_rise (n := 2) (by decide) (by simp) (show 1 ≤ 64 by decide) (by simp [Rising]) (fun x hx => by obtain rfl : x = _ := List.mem_singleton.1 hx; exact ⟨HW.out.2.1.1, by have := HW.out.2.1.2.1; show ky.size ≤ 4000; omega, show 0 ≤ 4000 by decide, fun _ => rfl⟩))
  obtain ⟨sts', hsts'⟩ := del6 T ky (packB row) sts
  rw [hsts'] at hS18 hok7
  obtain ⟨ao2, rfl, hao2⟩ := int_first hOe
  have hget := ledS_get_some (id := 3) (x := ⟨3, 1, []⟩) (row := row) (c' := c7) hS18 hok7 (by decide) rfl HW.out.1.key hk18 HW.out.2.2.2.2.2.2.1 (by rw [sees_empty, HW.out.2.2.1]; exact stoB_get1 _ _) HW.out.2.2.2.2.2.2.2.1 HW.out.2.2.2.2.1 (Nat.le_trans HW.out.2.1.2.2 (by decide))
  have H18 := Lib.hid (And.intro hget (And.intro hk18 (And.intro hS18 hok7)))
  clear hget hk18 hok7 hS18 hf18 hOe hperm hrise hsts'
  go_wp2_with fail
  clear hao2
  refine H18.out.1.mono ?_
  rintro e w19 ⟨A19, c19, rfl, _, hf19⟩
  have hS19 := H18.out.2.2.1.fr0 hf19
  have hk19 := H18.out.2.1.fr0 hf19
  have hbeg := ledS_begin hS19 H18.out.2.2.2 (by decide)
  rw [show (⟨T, stoB ky (packB row), [⟨3, 1, []⟩], 3, sts'⟩ : Led).next + 1 = 4 from rfl] at hbeg
  have hok8 := H18.out.2.2.2.begin_ (show (3 : Int) + 1 ≤ 1 + 64 + 64 by decide)
  have H19 := Lib.hid (And.intro hbeg (And.intro hk19 hok8))
  clear hbeg hk19 hok8 hS19 hf19
  go_wp2_with fail
  refine H19.out.1.mono ?_
  rintro e w20 ⟨rfl, hS20, hf20⟩
  have hk20 := H19.out.2.1.fr hf20 (fun i hi e => e.2 (.inl (.inl (HW.out.2.2.2.2.2.2.2.2.2 i hi))))
  have hget := ledS_get_none (id := 4) (x := ⟨4, 2, []⟩) (c' := c7) hS20 H19.out.2.2 (by decide) rfl HW.out.1.key hk20 HW.out.2.2.2.2.2.2.1 (by rw [sees_empty, HW.out.2.2.1]; exact stoB_get2 _ _)
  have H20 := Lib.hid (And.intro hget hS20)
  clear hget hk20 hS20 hf20
  go_wp2_with fail
  refine H20.out.1.mono ?_
  rintro e w21 ⟨rfl, hf21⟩
  have hS21 := H20.out.2.fr0 hf21
  have hN := ledS_now hS21
  rw [show (⟨T, stoB ky (packB row), [⟨3, 1, []⟩], 3, sts'⟩ : Led).begin_.s.now = 2 from rfl] at hN
  have H21 := Lib.hid (And.intro hN hS21.fr)
  clear hN hS21 hf21
  go_wp2_with fail
  refine H21.out.1.mono ?_
  rintro e w22 ⟨rfl, rfl⟩
  go_wp2_with fail
  go_ret
  exact ⟨rfl, H21.out.2⟩
end Go.Proofs.YtlmhphejgahfbaaGreatDoor
