/- Laws of layer 9 (trie): TrieOne. -/
import Derived.Test.YtlgmodeibmdcgaaDoorLaw9i
set_option linter.unusedVariables false
set_option linter.unusedSimpArgs false
namespace Go.Proofs.YtlgmodeibmdcgaaDoor
open Go.RowKit

set_option maxHeartbeats 8000000 in
set_option maxRecDepth 100000 in
theorem law_one_ok {w : World} {F G : Nat → Prop} {D E : Option Addr} {d e1 : Nat} {l more : List Act9} (h : Rd tAct9 w F D l) (h2 : Rd tAct9 w G E more) (hl : smallB l = true) (hl2 : smallB more = true) (hk : KAt w) :
    Calls Tryd.prog 3 #[.slice D l.length d, .slice E more.length e1] w fun e w' => e = .returned (.bool true) ∧ Fr No w w' := by
  obtain ⟨hrow, hlen⟩ := smallB_all hl
  obtain ⟨hrow2, hlen2⟩ := smallB_all hl2
  obtain ⟨gm, gl⟩ := itemsOf_good hrow hlen
  obtain ⟨gq, gql⟩ := itemsOf_good hrow2 hlen2
  have hsm := fun (w1 : World) (f : Fr No w w1) => small_ok (c := d) (h.fr0 f)
  have hsm2 := fun (w1 : World) (f : Fr No w w1) => small_ok (c := e1) (h2.fr0 f)
  simp only [hl] at hsm
  simp only [hl2] at hsm2
  have hmd := fun (w1 : World) (f : Fr No w w1) => made_ok (B := w.heap.size) (d := d) (h.fr0 f) hl (hk.fr0 f) f.size
  have hmd2 := fun (w1 : World) (f : Fr No w w1) => made_ok (B := w.heap.size) (d := e1) (h2.fr0 f) hl2 (hk.fr0 f) f.size
  have hnx := itemsOf_notX l
  obtain ⟨m, hm⟩ : ∃ m, itemsOf l = m := ⟨_, rfl⟩
  obtain ⟨q, hq⟩ : ∃ q, itemsOf more = q := ⟨_, rfl⟩
  simp only [hm] at hmd gm gl hnx
  simp only [hq] at hmd2 gq gql
  have hml : m.length ≤ 40 := by omega
  have hmli : (m.length : Int) ≤ 40 := by omega
  have hmorei : (more.length : Int) ≤ 40 := by omega
  have hml0 : (0 : Int) ≤ (m.length : Int) := Int.natCast_nonneg _
  have H := Lib.hid (And.intro hsm (And.intro hsm2 (And.intro hmd (And.intro hmd2 (And.intro hk (And.intro gm (And.intro gq (And.intro hnx (And.intro hml (And.intro h2 (And.intro hrow2 (And.intro hlen2 gql))))))))))))
  have HB := Lib.hid (back_ok hk)
  clear hsm hsm2 hmd hmd2 hk gm gq hnx gl gql hml h2 hrow2 hlen2 hm hq hrow hlen h hl hl2
  go_enter Tryd.func3, Tryd.ntmps3
  go_wp2_with fail
  refine HB.out.mono ?_
  rintro e w1 ⟨rfl, hf1⟩
  have H1 := Lib.hid hf1
  clear hf1
  go_wp2_with fail
  refine (H.out.1 _ H1.out).mono ?_
  rintro e w' ⟨rfl, rfl⟩
  go_wp2_with fail
  refine (H.out.2.1 _ H1.out).mono ?_
  rintro e w' ⟨rfl, rfl⟩
  go_wp2_with fail
  refine (H.out.2.2.1 _ H1.out).mono ?_
  rintro e w2 ⟨vn, Am, cm, rfl, hM, hf2⟩
  have H2 := Lib.hid (And.intro hM (H1.out.next hf2 (fun _ _ f => f.elim)))
  clear hM hf2
  go_wp2_with fail
  go_loopw [7, 8] (fun o iv wr => ∃ z : Int, iv = .int .i64 z ∧ -1 ≤ z ∧ z ≤ 40 ∧ Hid (∃ j : Nat, j ≤ m.length ∧ z = (j : Int) - 1 ∧ NodeAt w.heap.size wr o (treeOf (m.drop j)) ∧ Fr No w2 wr)) (fun _ iv _ => (intOf iv + 1).toNat)
  case atStart => exact ⟨_, rfl, by omega, by omega, m.length, Nat.le_refl _, rfl, by rw [List.drop_length]; rfl, Fr.refl _ _⟩
  case round =>
    obtain ⟨z, rfl, hz1, hz2, I⟩ := hrel
    obtain ⟨j, hj, hzj, hnode, hfr⟩ := I.out
    clear I
    by_cases hz : 0 ≤ z
    · obtain ⟨i, hi⟩ := Int.eq_ofNat_of_zero_le hz
      obtain rfl : z = (i : Int) := hi
      obtain rfl : j = i + 1 := by omega
      have hlt : i < m.length := by omega
      have hlti : (i : Int) < (m.length : Int) := by omega
      obtain ⟨ad, R, cx, rfl, x0, x1, _, hx⟩ := itm_at (H2.out.1.its.fr0 hfr) hlt
      have gd : GoodM (m.drop (i + 1)) := H.out.2.2.2.2.2.1.sub (List.drop_sublist _ _)
      have hkey := H.out.2.2.2.2.2.1.key m[i] (List.getElem_mem hlt)
      have hxr := H.out.2.2.2.2.2.1.row m[i] (List.getElem_mem hlt)
      have hfw := H2.out.2.next hfr (fun _ _ f => f.elim)
      have hput := fun (w1 : World) (f : Fr No wr w1) => good_put (c := cx) gd m[i].1 (hnode.fr0 f) (hx.fr0 f) hkey hxr ((H.out.2.2.2.2.1.fr0 hfw).fr0 f) (Nat.le_trans hfw.size f.size)
      rw [show putL (m.drop (i + 1)) (m[i].1, m[i].2) = m.drop i from putL_drop H.out.2.2.2.2.2.1.rise hlt] at hput
      have HS := Lib.hid (And.intro hput hfr)
      obtain ⟨kx, hkx⟩ : ∃ kx, m[i].1 = kx := ⟨_, rfl⟩
      obtain ⟨lx, hlx⟩ : ∃ lx, m[i].2.length = lx := ⟨_, rfl⟩
      rw [hkx] at x0 HS
      rw [hlx] at x1 HS
      have g0 := Fr.refl No wr
      have hwz : IntKind.i64.wrap ((i : Int) - 1) = (i : Int) - 1 := IntWalk.i64_in _ (by omega)
      clear hput hkey hxr gd hfw hx hnode hfr hkx hlx hzj hj
      go_wp2_with fail
      go_region_held3 (fun w' => w'.cell? (ad.add (i * 2)) = some (.string kx) ∧ w'.cell? ⟨(ad.add (i * 2)).block, (ad.add (i * 2)).off + 1, none⟩ = some (.slice R lx cx))
        (first
          | exact ⟨x0, x1⟩
          | exact ⟨q0, q1⟩)
        ((go_at_call 13; refine (HS.out.1 _ (by repeat (first | assumption | exact Fr.refl _ _ | apply Fr.drew | apply Fr.drewN))).mono ?_; rintro e3 w3 ⟨u, rfl, hu, hf3⟩
          have g3 : Fr No wr w3 := Fr.trans (by repeat (first | assumption | exact Fr.refl _ _ | apply Fr.drew | apply Fr.drewN)) (hf3.mono fun _ _ f => f.elim)
          have q0 := g3.cell x0 (fun f => f)
          have q1 := g3.cell x1 (fun f => f)
          have HU := Lib.hid hu
          clear hu hf3))
      all_goals
        go_wp2_with fail
        go_roundw
        case rel => exact ⟨(i : Int) - 1, rfl, by omega, by omega, i, by omega, rfl, HU.out.fr0 (by repeat (first | exact Fr.refl _ _ | apply Fr.drew | apply Fr.drewN)), HS.out.2.next (show Fr No wr _ from (by repeat (first | assumption | exact Fr.refl _ _ | apply Fr.drew | apply Fr.drewN))) (fun _ _ f => f.elim)⟩
        case measure => simp [intOf]
    · obtain rfl : j = 0 := by omega
      rw [List.drop_zero] at hnode
      have HO := Lib.hid (And.intro hnode hfr)
      clear hnode hfr hzj hj
      obtain ⟨wq, hwq⟩ : ∃ wq, wq = wr := ⟨_, rfl⟩
      subst hwq
      go_wp2_with fail
      go_loopw [7, 9] (fun o iv wr => ∃ k : Nat, k ≤ more.length ∧ iv = .int .i64 (k : Int) ∧ Hid (NodeAt w.heap.size wr o (treeOf (xputs m (more.take k))) ∧ Fr No w2 wr)) (fun _ iv _ => more.length - (intOf iv).toNat)
      case atStart => exact ⟨0, Nat.zero_le _, rfl, HO.out.1, HO.out.2⟩
      case round =>
        obtain ⟨k, hk, rfl, J⟩ := hrel
        obtain ⟨hnode, hfr⟩ := J.out
        clear J
        obtain ⟨wp, hwp⟩ : ∃ wp, wp = wr := ⟨_, rfl⟩
        subst hwp
        have hk0 : (0 : Int) ≤ (k : Int) := Int.natCast_nonneg _
        by_cases hlt : k < more.length
        · have hk1 : (k : Int) < (more.length : Int) := by omega
          have hfw := H2.out.2.next hfr (fun _ _ f => f.elim)
          obtain ⟨ad, R, cx, rfl, _, x1, x2, hx⟩ := act_at (H.out.2.2.2.2.2.2.2.2.2.1.fr0 hfw) hlt
          obtain ⟨gx, gxl⟩ := xputs_good (l := more.take k) (fun a ha => Nat.le_trans (H.out.2.2.2.2.2.2.2.2.2.2.1 a (List.mem_of_mem_take ha)) (by decide)) H.out.2.2.2.2.2.1 (by rw [List.length_take]; have := H.out.2.2.2.2.2.2.2.2.1; have := H.out.2.2.2.2.2.2.2.2.2.2.2.1; omega)
          have hxr := H.out.2.2.2.2.2.2.2.2.2.2.1 more[k] (List.getElem_mem hlt)
          have hput := fun (w1 : World) (f : Fr No wp w1) => good_put (c := cx) gx (xq more[k].2.1) (hnode.fr0 f) (hx.fr0 f) (xq_key _) (by omega) ((H.out.2.2.2.2.1.fr0 hfw).fr0 f) (Nat.le_trans hfw.size f.size)
          rw [← xputs_take m more hlt] at hput
          obtain ⟨q2, hq2⟩ : ∃ q2, more[k].2.1 = q2 := ⟨_, rfl⟩
          obtain ⟨lx, hlx⟩ : ∃ lx, more[k].2.2.length = lx := ⟨_, rfl⟩
          rw [hq2] at x1 hput
          rw [hlx] at x2 hput
          have HS := Lib.hid (And.intro hput hfr)
          have g0 := Fr.refl No wp
          have kg := fun (w' : World) (b : Nat) => run_two_at w' b 120 q2 (x := 120) (y := (q2.toNat : Int)) rfl rfl
          have kc1 := fun w0 : World => kg (w0.alloc (.cells #[.int .u8 120, .int .u8 (q2.toNat : Int)] 5)) w0.heap.size (heap_alloc_new w0 _)
          have kc2 := fun w0 : World => kg (w0.alloc (.cells #[.int .u8 120, .int .u8 (q2.toNat : Int)] 5)).drew w0.heap.size (heap_alloc_new w0 _)
          rw [show key2 120 q2 = xq q2 from rfl] at kc1 kc2
          have x1a := fun o => cell_alloc x1 o
          have x2a := fun o => cell_alloc x2 o
          clear hput hxr gx gxl hfw hx hnode hfr hq2 hlx kg
          go_wp2_with fail
          go_region_law
            (go_simp; go_at_call 13; refine (HS.out.1 _ (by repeat (first | assumption | exact Fr.refl _ _ | apply Fr.alloc | apply Fr.drew | apply Fr.drewN))).mono ?_; rintro e3 w3 ⟨u, rfl, hu, hf3⟩
             have g3 : Fr No wp w3 := Fr.trans (by repeat (first | assumption | exact Fr.refl _ _ | apply Fr.alloc | apply Fr.drew | apply Fr.drewN)) (hf3.mono fun _ _ f => f.elim)
             have HU := Lib.hid hu
             clear hu hf3)
          all_goals
            go_wp2_with fail
            go_roundw
            case rel => exact ⟨k + 1, by omega, by go_num, HU.out.fr0 (by repeat (first | exact Fr.refl _ _ | apply Fr.alloc | apply Fr.drew | apply Fr.drewN)), HS.out.2.next (show Fr No wp _ from (by repeat (first | assumption | exact Fr.refl _ _ | apply Fr.alloc | apply Fr.drew | apply Fr.drewN))) (fun _ _ f => f.elim)⟩
            case measure => simp [intOf]; omega
        · obtain rfl : k = more.length := by omega
          rw [List.take_length] at hnode
          obtain ⟨gx, gxl⟩ := xputs_good (l := more) (fun a ha => Nat.le_trans (H.out.2.2.2.2.2.2.2.2.2.2.1 a ha) (by decide)) H.out.2.2.2.2.2.1 (by have := H.out.2.2.2.2.2.2.2.2.1; have := H.out.2.2.2.2.2.2.2.2.2.2.2.1; omega)
          have HO2 := Lib.hid (And.intro hnode (And.intro hfr gx))
          clear hnode hfr gx gxl
          go_wp2_with fail
          go_loopw [7, 10] (fun o iv wr => ∃ k : Nat, k ≤ more.length ∧ iv = .int .i64 (k : Int) ∧ Hid (NodeAt w.heap.size wr o (treeOf (xdels (xputs m more) (more.take k))) ∧ Fr No w2 wr)) (fun _ iv _ => more.length - (intOf iv).toNat)
          case atStart => exact ⟨0, Nat.zero_le _, rfl, HO2.out.1, HO2.out.2.1⟩
          case round =>
            obtain ⟨k, hk, rfl, J⟩ := hrel
            obtain ⟨hnode, hfr⟩ := J.out
            clear J
            obtain ⟨ws, hws⟩ : ∃ ws, ws = wr := ⟨_, rfl⟩
            subst hws
            have hk0 : (0 : Int) ≤ (k : Int) := Int.natCast_nonneg _
            by_cases hlt : k < more.length
            · have hk1 : (k : Int) < (more.length : Int) := by omega
              have hfw := H2.out.2.next hfr (fun _ _ f => f.elim)
              obtain ⟨ad, R, cx, rfl, _, x1, x2, hx⟩ := act_at (H.out.2.2.2.2.2.2.2.2.2.1.fr0 hfw) hlt
              have gd := xdels_good (l := more.take k) HO2.out.2.2
              have hdel := fun (w1 : World) (f : Fr No ws w1) => good_del gd (xq more[k].2.1) (hnode.fr0 f) (by rw [(xq_key _).size]; decide) ((H.out.2.2.2.2.1.fr0 hfw).fr0 f) (Nat.le_trans hfw.size f.size)
              rw [← xdels_take (xputs m more) more hlt] at hdel
              obtain ⟨q2, hq2⟩ : ∃ q2, more[k].2.1 = q2 := ⟨_, rfl⟩
              rw [hq2] at x1 hdel
              have HS := Lib.hid (And.intro hdel hfr)
              have kg := fun (w' : World) (b : Nat) => run_two_at w' b 120 q2 (x := 120) (y := (q2.toNat : Int)) rfl rfl
              have kc1 := fun w0 : World => kg (w0.alloc (.cells #[.int .u8 120, .int .u8 (q2.toNat : Int)] 5)) w0.heap.size (heap_alloc_new w0 _)
              rw [show key2 120 q2 = xq q2 from rfl] at kc1
              clear hdel gd hfw hx hnode hfr hq2 kg x2
              go_wp2_with fail
              refine (HS.out.1 _ ((Fr.refl No ws).alloc _)).mono ?_
              rintro e3 w3 ⟨u, rfl, hu, hf3⟩
              have HU := Lib.hid (And.intro hu (HS.out.2.next (((Fr.refl No ws).alloc _).next hf3 (fun _ _ f => f.elim)) (fun _ _ f => f.elim)))
              clear hu hf3
              go_wp2_with fail
              go_roundw
              case rel => exact ⟨k + 1, by omega, by go_num, HU.out.1, HU.out.2⟩
              case measure => simp [intOf]; omega
            · obtain rfl : k = more.length := by omega
              rw [List.take_length, xdels_xputs H.out.2.2.2.2.2.2.2.1] at hnode
              have HO3 := Lib.hid (And.intro hnode (And.intro hfr (H2.out.2.next hfr (fun _ _ f => f.elim))))
              clear hnode hfr
              go_wp2_with fail
              refine (H.out.2.2.2.1 _ HO3.out.2.2).mono ?_
              rintro e4 w4 ⟨vp, Aq, cq, rfl, hMq, hf4⟩
              have hf24 := HO3.out.2.1.next hf4 (fun _ _ f => f.elim)
              have H4 := Lib.hid (And.intro hMq (And.intro (HO3.out.1.fr0 hf4) (And.intro (H2.out.1.fr0 hf24) (HO3.out.2.2.next hf4 (fun _ _ f => f.elim)))))
              clear hMq hf4 hf24
              have hkk := fun (w1 : World) (f : Fr No w4 w1) => (H.out.2.2.2.2.1.fr0 H4.out.2.2.2).fr0 f
              have hdo := fun (w1 : World) (f : Fr No w4 w1) => good_dig (H4.out.2.1.fr0 f) (hkk w1 f)
              have hdn := fun (w1 : World) (f : Fr No w4 w1) => good_dig (H4.out.2.2.1.node.fr0 f) (hkk w1 f)
              have hdp := fun (w1 : World) (f : Fr No w4 w1) => good_dig (H4.out.1.node.fr0 f) (hkk w1 f)
              have hrm := fun (w1 : World) (f : Fr No w4 w1) => ref_digest (c := cm) 256 (d := 0) rfl (H4.out.2.2.1.its.fr0 f) H.out.2.2.2.2.2.1.small (by have := H.out.2.2.2.2.2.2.2.2.1; omega) (Nat.le_trans H4.out.2.2.2.size f.size)
              have hrq := fun (w1 : World) (f : Fr No w4 w1) => ref_digest (c := cq) 256 (d := 0) rfl (H4.out.1.its.fr0 f) H.out.2.2.2.2.2.2.1.small (by have := H.out.2.2.2.2.2.2.2.2.2.2.2.2; have := H.out.2.2.2.2.2.2.2.2.2.2.2.1; omega) (Nat.le_trans H4.out.2.2.2.size f.size)
              have hsame := fun (w1 : World) (f : Fr No w4 w1) => ref_same (c := cm) (d := cq) (H4.out.2.2.1.its.fr0 f) (H4.out.1.its.fr0 f)
              rw [show ((0 : Nat) : Int) = 0 from rfl] at hrm hrq
              obtain ⟨X, hX⟩ : ∃ X, digI 256 m 0 = X := ⟨_, rfl⟩
              obtain ⟨Y, hY⟩ : ∃ Y, digI 256 q 0 = Y := ⟨_, rfl⟩
              have hXY : m = q → X = Y := fun e => by rw [← hX, ← hY, e]
              rw [hX] at hdo hdn hrm
              rw [hY] at hdp hrq
              have hXY' := hXY
              have HD := Lib.hid (And.intro hdo (And.intro hdn (And.intro hdp (And.intro hrm (And.intro hrq (And.intro hsame hXY))))))
              clear hdo hdn hdp hrm hrq hsame hXY hkk hX hY
              have hbs : (X.toList == X.toList) = true := beq_self_eq_true _
              by_cases hmq : m = q
              · obtain rfl : X = Y := hXY' hmq
                rw [decide_eq_true hmq] at HD
                clear hmq hXY'
                go_wp2_with fail
                refine (HD.out.1 _ (Fr.refl _ _)).mono ?_
                rintro e5 w5 ⟨rfl, hf5⟩
                have H5 := Lib.hid hf5
                clear hf5
                go_wp2_with fail
                refine (HD.out.2.1 _ H5.out).mono ?_
                rintro e6 w6 ⟨rfl, hf6⟩
                have H6 := Lib.hid (H5.out.next hf6 (fun _ _ f => f.elim))
                clear hf6
                go_wp2_with fail
                refine (HD.out.2.2.1 _ H6.out).mono ?_
                rintro e7 w7 ⟨rfl, hf7⟩
                have H7 := Lib.hid (H6.out.next hf7 (fun _ _ f => f.elim))
                clear hf7
                go_wp2_with fail
                refine (HD.out.2.1 _ H7.out).mono ?_
                rintro e8 w8 ⟨rfl, hf8⟩
                have H8 := Lib.hid (H7.out.next hf8 (fun _ _ f => f.elim))
                clear hf8
                go_wp2_with fail
                refine (HD.out.2.2.2.1 _ H8.out).mono ?_
                rintro e9 w9 ⟨rfl, hf9⟩
                have H9 := Lib.hid (H8.out.next hf9 (fun _ _ f => f.elim))
                clear hf9
                go_wp2_with fail
                refine (HD.out.2.2.2.2.1 _ H9.out).mono ?_
                rintro e10 w10 ⟨rfl, hf10⟩
                have H10 := Lib.hid (H9.out.next hf10 (fun _ _ f => f.elim))
                clear hf10
                go_wp2_with fail
                refine (HD.out.2.2.2.2.2.1 _ H10.out).mono ?_
                rintro e11 w11 ⟨rfl, hf11⟩
                have H11 := Lib.hid (H10.out.next hf11 (fun _ _ f => f.elim))
                clear hf11
                go_wp2_with fail
                refine (HD.out.2.2.1 _ H11.out).mono ?_
                rintro e12 w12 ⟨rfl, hf12⟩
                have H12 := Lib.hid (H11.out.next hf12 (fun _ _ f => f.elim))
                clear hf12
                go_wp2_with fail
                refine (HD.out.2.1 _ H12.out).mono ?_
                rintro e13 w13 ⟨rfl, hf13⟩
                have H13 := Lib.hid (H12.out.next hf13 (fun _ _ f => f.elim))
                clear hf13
                go_wp2_with fail
                go_ret
                exact ⟨rfl, H4.out.2.2.2.next H13.out (fun _ _ f => f.elim)⟩
              · rw [decide_eq_false hmq] at HD
                by_cases hxy : X = Y
                · subst hxy
                  clear hmq hXY'
                  go_wp2_with fail
                  refine (HD.out.1 _ (Fr.refl _ _)).mono ?_
                  rintro e5 w5 ⟨rfl, hf5⟩
                  have H5 := Lib.hid hf5
                  clear hf5
                  go_wp2_with fail
                  refine (HD.out.2.1 _ H5.out).mono ?_
                  rintro e6 w6 ⟨rfl, hf6⟩
                  have H6 := Lib.hid (H5.out.next hf6 (fun _ _ f => f.elim))
                  clear hf6
                  go_wp2_with fail
                  refine (HD.out.2.2.1 _ H6.out).mono ?_
                  rintro e7 w7 ⟨rfl, hf7⟩
                  have H7 := Lib.hid (H6.out.next hf7 (fun _ _ f => f.elim))
                  clear hf7
                  go_wp2_with fail
                  refine (HD.out.2.1 _ H7.out).mono ?_
                  rintro e8 w8 ⟨rfl, hf8⟩
                  have H8 := Lib.hid (H7.out.next hf8 (fun _ _ f => f.elim))
                  clear hf8
                  go_wp2_with fail
                  refine (HD.out.2.2.2.1 _ H8.out).mono ?_
                  rintro e9 w9 ⟨rfl, hf9⟩
                  have H9 := Lib.hid (H8.out.next hf9 (fun _ _ f => f.elim))
                  clear hf9
                  go_wp2_with fail
                  refine (HD.out.2.2.2.2.1 _ H9.out).mono ?_
                  rintro e10 w10 ⟨rfl, hf10⟩
                  have H10 := Lib.hid (H9.out.next hf10 (fun _ _ f => f.elim))
                  clear hf10
                  go_wp2_with fail
                  refine (HD.out.2.2.2.2.2.1 _ H10.out).mono ?_
                  rintro e11 w11 ⟨rfl, hf11⟩
                  have H11 := Lib.hid (H10.out.next hf11 (fun _ _ f => f.elim))
                  clear hf11
                  go_wp2_with fail
                  go_ret
                  exact ⟨rfl, H4.out.2.2.2.next H11.out (fun _ _ f => f.elim)⟩
                · have h1 : (X.toList == Y.toList) = false := by rw [beq_toList]; exact decide_eq_false hxy
                  have h2 : (Y.toList == X.toList) = false := by rw [beq_toList]; exact decide_eq_false fun e => hxy e.symm
                  clear hmq hXY' hxy
                  go_wp2_with fail
                  refine (HD.out.1 _ (Fr.refl _ _)).mono ?_
                  rintro e5 w5 ⟨rfl, hf5⟩
                  have H5 := Lib.hid hf5
                  clear hf5
                  go_wp2_with fail
                  refine (HD.out.2.1 _ H5.out).mono ?_
                  rintro e6 w6 ⟨rfl, hf6⟩
                  have H6 := Lib.hid (H5.out.next hf6 (fun _ _ f => f.elim))
                  clear hf6
                  go_wp2_with fail
                  refine (HD.out.2.2.1 _ H6.out).mono ?_
                  rintro e7 w7 ⟨rfl, hf7⟩
                  have H7 := Lib.hid (H6.out.next hf7 (fun _ _ f => f.elim))
                  clear hf7
                  go_wp2_with fail
                  refine (HD.out.2.1 _ H7.out).mono ?_
                  rintro e8 w8 ⟨rfl, hf8⟩
                  have H8 := Lib.hid (H7.out.next hf8 (fun _ _ f => f.elim))
                  clear hf8
                  go_wp2_with fail
                  refine (HD.out.2.2.2.1 _ H8.out).mono ?_
                  rintro e9 w9 ⟨rfl, hf9⟩
                  have H9 := Lib.hid (H8.out.next hf9 (fun _ _ f => f.elim))
                  clear hf9
                  go_wp2_with fail
                  refine (HD.out.2.2.2.2.1 _ H9.out).mono ?_
                  rintro e10 w10 ⟨rfl, hf10⟩
                  have H10 := Lib.hid (H9.out.next hf10 (fun _ _ f => f.elim))
                  clear hf10
                  go_wp2_with fail
                  refine (HD.out.2.2.2.2.2.1 _ H10.out).mono ?_
                  rintro e11 w11 ⟨rfl, hf11⟩
                  have H11 := Lib.hid (H10.out.next hf11 (fun _ _ f => f.elim))
                  clear hf11
                  go_wp2_with fail
                  go_ret
                  exact ⟨rfl, H4.out.2.2.2.next H11.out (fun _ _ f => f.elim)⟩
end Go.Proofs.YtlgmodeibmdcgaaDoor
