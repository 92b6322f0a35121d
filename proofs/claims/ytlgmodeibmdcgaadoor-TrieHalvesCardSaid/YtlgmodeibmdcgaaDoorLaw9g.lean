/- Laws of layer 9 (trie): TrieHalves. -/
import Derived.Test.YtlgmodeibmdcgaaDoorLaw9f
set_option linter.unusedVariables false
set_option linter.unusedSimpArgs false
namespace Go.Proofs.YtlgmodeibmdcgaaDoor
open Go.RowKit

set_option maxHeartbeats 8000000 in
set_option maxRecDepth 100000 in
theorem law_halves_ok {w : World} {F G : Nat → Prop} {D E : Option Addr} {d e1 : Nat} {l : List Act9} {path : List Bool} (h : Rd tAct9 w F D l) (hpth : Rd Ty.bool w G E path) (hl : smallB l = true) (hp : path.length ≤ 60) (hk : KAt w) :
    Calls Tryd.prog 4 #[.slice D l.length d, .slice E path.length e1] w fun e w' => e = .returned (.bool true) ∧ Fr No w w' := by
  have hpi : (path.length : Int) ≤ 60 := by omega
  obtain ⟨hrow, hlen⟩ := smallB_all hl
  obtain ⟨gm, gl⟩ := itemsOf_good hrow hlen
  have hsm := fun (w1 : World) (f : Fr No w w1) => small_ok (c := d) (h.fr0 f)
  simp only [hl] at hsm
  have hmd := fun (w1 : World) (f : Fr No w w1) => made_ok (B := w.heap.size) (d := d) (h.fr0 f) hl (hk.fr0 f) f.size
  obtain ⟨m, hm⟩ : ∃ m, itemsOf l = m := ⟨_, rfl⟩
  simp only [hm] at hmd gm gl
  have hml : m.length ≤ 40 := by omega
  have H := Lib.hid (And.intro hsm (And.intro hmd (And.intro hpth (And.intro hk (And.intro gm hml)))))
  have HB := Lib.hid (back_ok hk)
  clear hsm hmd hpth hk gm gl hml hm hrow hlen h hl hp
  go_enter Tryd.func4, Tryd.ntmps4
  go_wp2_with fail
  refine HB.out.mono ?_
  rintro e w1 ⟨rfl, hf1⟩
  have H1 := Lib.hid hf1
  clear hf1
  go_wp2_with fail
  refine (H.out.1 _ H1.out).mono ?_
  rintro e w' ⟨rfl, rfl⟩
  go_wp2_with fail
  refine (H.out.2.1 _ H1.out).mono ?_
  rintro e w2 ⟨v2, A2, c2, rfl, hM, hf2⟩
  have H2 := Lib.hid (show HalvAt w.heap.size w w2 m path v2 A2 m.length 0 from ⟨rfl, hM.node, hM.its, H1.out.next hf2 (fun _ _ f => f.elim)⟩)
  clear hM hf2
  go_wp2_with fail
  go_loopw [5, 6, 7] (fun v s iv wr => ∃ (i n : Nat) (A : Option Addr) (c : Nat), i ≤ path.length ∧ iv = .int .i64 (i : Int) ∧ s = .slice A n c ∧ Hid (HalvAt w.heap.size w wr m path v A n i)) (fun _ _ iv _ => path.length - (intOf iv).toNat)
  case atStart => exact ⟨0, m.length, A2, c2, Nat.zero_le _, rfl, rfl, H2.out⟩
  case round =>
    obtain ⟨i, n, A, c, hi, rfl, rfl, I⟩ := hrel
    obtain ⟨wq, hwq⟩ : ∃ wq, wq = wr := ⟨_, rfl⟩
    subst hwq
    have hi0 : (0 : Int) ≤ (i : Int) := Int.natCast_nonneg _
    by_cases hlt : i < path.length
    · have hi1 : (i : Int) < (path.length : Int) := by omega
      obtain ⟨hn, hnode, hits, hfr⟩ := I.out
      have gI := downI_good H.out.2.2.2.2.1 path i
      have hlI : (downI m path i).length ≤ 40 := Nat.le_trans (downI_len m path i) H.out.2.2.2.2.2
      have hkr : ∀ w1, Fr No wq w1 → KAt w1 := fun w1 f => (H.out.2.2.2.1.fr0 hfr).fr0 f
      have hdig := fun (w1 : World) (f : Fr No wq w1) => dig_ok (hnode.fr0 f) (hkr w1 f)
      have hdd : digT (build hbit (256 - i) (downI m path i) i) = digI (256 - i) (downI m path i) i := dig_build _ _ _ _ _ _ _
      rw [hdd] at hdig
      have hrd := fun (w1 : World) (f : Fr No wq w1) => ref_digest (c := c) (256 - i) (d := i) (by omega) (hits.fr0 f) gI.small (by omega) (Nat.le_trans hfr.size f.size)
      rw [← hn] at hrd
      by_cases h2 : 2 ≤ n
      · obtain ⟨tl, tr, hb⟩ : ∃ tl tr, tl = build hbit (255 - i) (half hbit (downI m path i) i false) (i + 1) ∧ tr = build hbit (255 - i) (half hbit (downI m path i) i true) (i + 1) := ⟨_, _, rfl, rfl⟩
        have hbn : build hbit (256 - i) (downI m path i) i = .node tl tr := by
          rw [show 256 - i = (255 - i) + 1 by omega, build_two _ _ _ (by omega), hb.1, hb.2]
        rw [hbn] at hnode hdd
        have hdn : digI (256 - i) (downI m path i) i = sha (nodeB (digT tl) (digT tr)) := by rw [← hdd]; rfl
        have hhal := fun (w1 : World) (f : Fr No wq w1) => halves_node (hnode.fr0 f)
        have hlf := fun (w1 : World) (f : Fr No wq w1) => leafm_not (hnode.fr0 f) rfl
        have hhf := fun (b : Bool) (A0 : Option Addr) (c0 : Nat) (w1 : World) (hr : RdI w.heap.size w1 A0 (downI m path i)) (hB : w.heap.size ≤ w1.heap.size) => ref_half (c := c0) i b hr gI.small (by have := H.out.2.2.1; omega) (by omega) hB
        rw [← hn] at hhf
        obtain ⟨X, hX⟩ : ∃ X, digI (256 - i) (downI m path i) i = X := ⟨_, rfl⟩
        rw [hX] at hdig hrd hdn
        have hni : (1 : Int) < (n : Int) := by omega
        have hn1 : ((n : Int) == 1) = false := beq_eq_false_iff_ne.2 (by omega)
        obtain ⟨ad, hE, y0⟩ := bool_at H.out.2.2.1 hlt
        subst hE
        have HV := Lib.hid (And.intro hhal (And.intro hlf (And.intro hdig (And.intro hrd (And.intro hdn (And.intro hhf (And.intro hkr (And.intro hb (And.intro hits hfr)))))))))
        clear hhal hlf hdig hrd hdn hhf hkr hb hits hfr hnode hdd hbn hX gI hlI hn h2
        go_wp2_with fail
        refine (HV.out.1 _ (Fr.refl _ _)).mono ?_
        rintro e w3 ⟨⟨va, vb, rfl, hva, hvb⟩, hf3⟩
        have HA := Lib.hid (And.intro hva (And.intro hvb hf3))
        clear hva hvb hf3
        go_wp2_with fail
        refine (HV.out.2.1 _ HA.out.2.2).mono ?_
        rintro e w' ⟨rfl, rfl⟩
        go_wp2_with fail
        refine (HV.out.2.2.1 _ HA.out.2.2).mono ?_
        rintro e w4 ⟨rfl, hf4⟩
        have H4 := Lib.hid (HA.out.2.2.next hf4 (fun _ _ f => f.elim))
        clear hf4
        go_wp2_with fail
        refine (HV.out.2.2.2.1 _ H4.out).mono ?_
        rintro e w5 ⟨rfl, hf5⟩
        have H5 := Lib.hid (H4.out.next hf5 (fun _ _ f => f.elim))
        clear hf5
        go_wp2_with fail
        refine (HV.out.2.2.1 _ H5.out).mono ?_
        rintro e w6 ⟨rfl, hf6⟩
        have H6 := Lib.hid (H5.out.next hf6 (fun _ _ f => f.elim))
        clear hf6
        have hda := dig_ok (HA.out.1.fr0 H6.out) (HV.out.2.2.2.2.2.2.1 _ H6.out)
        obtain ⟨xa, hxa⟩ : ∃ xa, digT tl = xa := ⟨_, rfl⟩
        obtain ⟨xb, hxb⟩ : ∃ xb, digT tr = xb := ⟨_, rfl⟩
        rw [hxa] at hda
        have HDA := Lib.hid (And.intro hda (And.intro hxa hxb))
        clear hda hxa hxb
        go_wp2_with fail
        refine HDA.out.1.mono ?_
        rintro e w7 ⟨rfl, hf7⟩
        have hf7' := H6.out.next hf7 (fun _ _ f => f.elim)
        have hdb := dig_ok (HA.out.2.1.fr0 hf7') (HV.out.2.2.2.2.2.2.1 _ hf7')
        rw [HDA.out.2.2] at hdb
        have HDB := Lib.hid (And.intro hdb hf7')
        clear hdb hf7 hf7'
        go_wp2_with fail
        refine HDB.out.1.mono ?_
        rintro e w8 ⟨rfl, hf8⟩
        have hf8' := HDB.out.2.next hf8 (fun _ _ f => f.elim)
        have hnb := ref_nodeb w8 xa xb (by rw [← HDA.out.2.1, digT_size]; decide) (by rw [← HDA.out.2.2, digT_size]; decide)
        have hXn := HV.out.2.2.2.2.1
        rw [HDA.out.2.1, HDA.out.2.2] at hXn
        obtain ⟨L, hL⟩ : ∃ L, nodeB xa xb = L := ⟨_, rfl⟩
        have hLl : L.length ≤ 100000 := by rw [← hL]; unfold nodeB; rw [List.length_append, List.length_append, keyB_len, keyB_len, ← HDA.out.2.1, ← HDA.out.2.2, digT_size, digT_size]; decide
        rw [hL] at hnb hXn
        have HNB := Lib.hid (And.intro hnb (And.intro hf8' (And.intro hXn hLl)))
        clear hnb hf8 hf8' hXn hL hLl
        go_wp2_with fail
        refine HNB.out.1.mono ?_
        rintro e w9 ⟨A9, c9, rfl, hr9, hf9⟩
        have hsum := ref_sum (c := c9) hr9 (by have := HNB.out.2.2.2; omega)
        rw [← HNB.out.2.2.1] at hsum
        have HS := Lib.hid (And.intro hsum (HNB.out.2.1.next hf9 (fun _ _ f => f.elim)))
        clear hsum hr9 hf9
        go_wp2_with fail
        refine HS.out.1.mono ?_
        rintro e w10 ⟨rfl, hf10⟩
        have hf10' := HS.out.2.next hf10 (fun _ _ f => f.elim)
        have hh := HV.out.2.2.2.2.2.1 false A c w10 (HV.out.2.2.2.2.2.2.2.2.1.fr0 hf10') (Nat.le_trans HV.out.2.2.2.2.2.2.2.2.2.size hf10'.size)
        rw [show ((bv false : Nat) : Int) = 0 from rfl] at hh
        obtain ⟨m1, hm1⟩ : ∃ m1, half hbit (downI m path i) i false = m1 := ⟨_, rfl⟩
        rw [hm1] at hh
        have HH := Lib.hid (And.intro hh (And.intro hf10' hm1))
        clear hh hf10 hf10' hm1
        cases hpi' : path[i] with
        | false =>
          rw [hpi'] at y0
          go_wp2_with fail
          refine HH.out.1.mono ?_
          rintro e w11 ⟨A11, c11, rfl, hI11, hf11⟩
          have hf11' := HH.out.2.1.next hf11 (fun _ _ f => f.elim)
          have hfw : Fr No w w11 := HV.out.2.2.2.2.2.2.2.2.2.next hf11' (fun _ _ f => f.elim)
          have hd1 : downI m path (i + 1) = m1 := by
            show half hbit (downI m path i) i (path.getD i false) = m1
            rw [List.getD_eq_getElem?_getD, List.getElem?_eq_getElem hlt, Option.getD_some, hpi', HH.out.2.2]
          have hn11 : NodeAt w.heap.size w11 va (build hbit (256 - (i + 1)) (downI m path (i + 1)) (i + 1)) := by
            rw [hd1, show 256 - (i + 1) = 255 - i by omega, ← HH.out.2.2, ← HV.out.2.2.2.2.2.2.2.1.1]
            exact HA.out.1.fr0 hf11'
          have HZ := Lib.hid (show HalvAt w.heap.size w w11 m path va A11 m1.length (i + 1) from ⟨by rw [hd1], hn11, by rw [hd1]; exact hI11.1.rd.2.2, hfw⟩)
          have y0 := hfw.cell y0 (fun f => f)
          clear hI11 hf11 hf11' hfw hd1 hn11 hpi'
          go_wp2_with fail
          go_roundw
          case rel => exact ⟨i + 1, _, A11, c11, by omega, by go_num, rfl, HZ.out⟩
          case measure => simp [intOf]; omega
        | true =>
          rw [hpi'] at y0
          go_wp2_with fail
          refine HH.out.1.mono ?_
          rintro e w11 ⟨A11, c11, rfl, hI11, hf11⟩
          have hf11' := HH.out.2.1.next hf11 (fun _ _ f => f.elim)
          have hfw : Fr No w w11 := HV.out.2.2.2.2.2.2.2.2.2.next hf11' (fun _ _ f => f.elim)
          have y0 := hfw.cell y0 (fun f => f)
          have HW := Lib.hid (And.intro hf11' hfw)
          clear hI11 hf11 hf11' hfw
          go_wp2_with fail
          refine (H.out.2.1 _ HW.out.2).mono ?_
          rintro e w12 ⟨v12, A12, c12, rfl, hM12, hf12⟩
          have HM := Lib.hid (And.intro hM12 (And.intro (HW.out.1.next hf12 (fun _ _ f => f.elim)) (HW.out.2.next hf12 (fun _ _ f => f.elim))))
          clear hM12 hf12
          go_wp2_with fail
          go_loopw [15, 16] (fun s kv wr => ∃ (k n2 : Nat) (A3 : Option Addr) (c3 : Nat), k ≤ i ∧ kv = .int .i64 (k : Int) ∧ s = .slice A3 n2 c3 ∧ Hid (n2 = (downI m path k).length ∧ RdI w.heap.size wr A3 (downI m path k) ∧ Fr No w12 wr)) (fun _ kv _ => i - (intOf kv).toNat)
          case atStart => exact ⟨0, m.length, A12, c12, Nat.zero_le _, rfl, rfl, rfl, HM.out.1.its, Fr.refl _ _⟩
          case round =>
            obtain ⟨k, n2, A3, c3, hki, rfl, rfl, J⟩ := hrel
            obtain ⟨hn2, hr3, hf3⟩ := J.out
            clear J
            obtain ⟨wp, hwp⟩ : ∃ wp, wp = wr := ⟨_, rfl⟩
            subst hwp
            have hk0 : (0 : Int) ≤ (k : Int) := Int.natCast_nonneg _
            have gk := downI_good H.out.2.2.2.2.1 path k
            have hk40 : (downI m path k).length ≤ 1000 := Nat.le_trans (downI_len m path k) (by have := H.out.2.2.2.2.2; omega)
            by_cases hkl : k < i
            · have hkl' : (k : Int) < (i : Int) := by omega
              have hkp : k < path.length := by omega
              have hkp' : (k : Int) < (path.length : Int) := by omega
              obtain ⟨ad2, e2, y1⟩ := bool_at H.out.2.2.1 hkp
              obtain rfl : ad = ad2 := by injection e2
              have y1 := (HM.out.2.2.next hf3 (fun _ _ f => f.elim)).cell y1 (fun f => f)
              cases hb1 : path[k]
              · rw [hb1] at y1
                have hhk := ref_half (c := c3) k false hr3 gk.small (by have := H.out.2.2.1; omega) hk40 (Nat.le_trans HM.out.2.2.size hf3.size)
                rw [show ((bv false : Nat) : Int) = 0 from rfl, ← hn2] at hhk
                have hdk : downI m path (k + 1) = half hbit (downI m path k) k false := by
                  show half hbit (downI m path k) k (path.getD k false) = _
                  rw [List.getD_eq_getElem?_getD, List.getElem?_eq_getElem hkp, Option.getD_some, hb1]
                rw [← hdk] at hhk
                have HK := Lib.hid (And.intro hhk hf3)
                clear hhk hdk hr3 hf3 hn2 gk hk40 hb1
                obtain ⟨ml, hml⟩ : ∃ ml, (downI m path (k + 1)).length = ml := ⟨_, rfl⟩
                rw [hml] at HK
                have HML := Lib.hid hml
                clear hml
                go_wp2_with fail
                refine HK.out.1.mono ?_
                rintro e w13 ⟨A13, c13, rfl, hI13, hf13⟩
                have HZ := Lib.hid (And.intro hI13.1.rd.2.2 (HK.out.2.next hf13 (fun _ _ f => f.elim)))
                clear hI13 hf13
                go_wp2_with fail
                go_roundw
                case rel => exact ⟨k + 1, ml, A13, c13, by omega, by go_num, rfl, HML.out.symm, HZ.out.1, HZ.out.2⟩
                case measure => simp [intOf]; omega
              · rw [hb1] at y1
                have hhk := ref_half (c := c3) k true hr3 gk.small (by have := H.out.2.2.1; omega) hk40 (Nat.le_trans HM.out.2.2.size hf3.size)
                rw [show ((bv true : Nat) : Int) = 1 from rfl, ← hn2] at hhk
                have hdk : downI m path (k + 1) = half hbit (downI m path k) k true := by
                  show half hbit (downI m path k) k (path.getD k false) = _
                  rw [List.getD_eq_getElem?_getD, List.getElem?_eq_getElem hkp, Option.getD_some, hb1]
                rw [← hdk] at hhk
                have HK := Lib.hid (And.intro hhk hf3)
                clear hhk hdk hr3 hf3 hn2 gk hk40 hb1
                obtain ⟨ml, hml⟩ : ∃ ml, (downI m path (k + 1)).length = ml := ⟨_, rfl⟩
                rw [hml] at HK
                have HML := Lib.hid hml
                clear hml
                go_wp2_with fail
                refine HK.out.1.mono ?_
                rintro e w13 ⟨A13, c13, rfl, hI13, hf13⟩
                have HZ := Lib.hid (And.intro hI13.1.rd.2.2 (HK.out.2.next hf13 (fun _ _ f => f.elim)))
                clear hI13 hf13
                go_wp2_with fail
                go_roundw
                case rel => exact ⟨k + 1, ml, A13, c13, by omega, by go_num, rfl, HML.out.symm, HZ.out.1, HZ.out.2⟩
                case measure => simp [intOf]; omega
            · obtain rfl : k = i := by omega
              have hhk := ref_half (c := c3) k true hr3 gk.small (by have := H.out.2.2.1; omega) hk40 (Nat.le_trans HM.out.2.2.size hf3.size)
              rw [show ((bv true : Nat) : Int) = 1 from rfl, ← hn2] at hhk
              have hdk : downI m path (k + 1) = half hbit (downI m path k) k true := by
                show half hbit (downI m path k) k (path.getD k false) = _
                rw [List.getD_eq_getElem?_getD, List.getElem?_eq_getElem hlt, Option.getD_some, hpi']
              have HDK := Lib.hid hdk
              rw [← hdk] at hhk
              have HK := Lib.hid (And.intro hhk (And.intro hf3 trivial))
              clear hhk hdk hr3 hf3 hn2 gk hk40 hpi'
              obtain ⟨ml, hml⟩ : ∃ ml, (downI m path (k + 1)).length = ml := ⟨_, rfl⟩
              rw [hml] at HK
              have HML := Lib.hid hml
              clear hml
              go_wp2_with fail
              refine HK.out.1.mono ?_
              rintro e w13 ⟨A13, c13, rfl, hI13, hf13⟩
              have hf13' : Fr No wq w13 := (HM.out.2.1.next HK.out.2.1 (fun _ _ f => f.elim)).next hf13 (fun _ _ f => f.elim)
              have hfw : Fr No w w13 := HV.out.2.2.2.2.2.2.2.2.2.next hf13' (fun _ _ f => f.elim)
              have hn13 : NodeAt w.heap.size w13 vb (build hbit (256 - (k + 1)) (downI m path (k + 1)) (k + 1)) := by
                have e1 := HDK.out
                rw [e1, show 256 - (k + 1) = 255 - k by omega, ← HV.out.2.2.2.2.2.2.2.1.2]
                exact HA.out.2.1.fr0 hf13'
              have HZ := Lib.hid (show HalvAt w.heap.size w w13 m path vb A13 ml (k + 1) from ⟨HML.out.symm, hn13, hI13.1.rd.2.2, hfw⟩)
              clear hI13 hf13 hf13' hfw hn13
              go_wp2_with fail
              go_roundw
              case rel => exact ⟨k + 1, ml, A13, c13, by omega, by go_num, rfl, HZ.out⟩
              case measure => simp [intOf]; omega
      · rcases Nat.eq_zero_or_pos n with h0 | h0
        · have hmi : downI m path i = [] := List.eq_nil_of_length_eq_zero (by omega)
          rw [hmi, build_nil] at hnode
          have hhal := fun (w1 : World) (f : Fr No wq w1) => halves_not (hnode.fr0 f) (.inl rfl)
          have hlf := fun (w1 : World) (f : Fr No wq w1) => leafm_not (hnode.fr0 f) rfl
          obtain ⟨X, hX⟩ : ∃ X, digI (256 - i) (downI m path i) i = X := ⟨_, rfl⟩
          rw [hX] at hdig hrd
          subst h0
          have HV := Lib.hid (And.intro hhal (And.intro hlf (And.intro hdig (And.intro hrd hfr))))
          clear hhal hlf hdig hrd hkr hits hfr hnode hdd hX gI hlI hn h2 hmi
          go_wp2_with fail
          refine (HV.out.1 _ (Fr.refl _ _)).mono ?_
          rintro e w' ⟨rfl, rfl⟩
          go_wp2_with fail
          refine (HV.out.2.1 _ (Fr.refl _ _)).mono ?_
          rintro e w' ⟨rfl, rfl⟩
          go_wp2_with fail
          refine (HV.out.2.2.1 _ (Fr.refl _ _)).mono ?_
          rintro e w4 ⟨rfl, hf4⟩
          have H4 := Lib.hid hf4
          clear hf4
          go_wp2_with fail
          refine (HV.out.2.2.2.1 _ H4.out).mono ?_
          rintro e w5 ⟨rfl, hf5⟩
          have H5 := Lib.hid (HV.out.2.2.2.2.next (H4.out.next hf5 (fun _ _ f => f.elim)) (fun _ _ f => f.elim))
          clear hf5
          go_wp2_with fail
          go_ret
          exact ⟨rfl, H5.out⟩
        · obtain rfl : n = 1 := by omega
          obtain ⟨x, hmi⟩ : ∃ x, downI m path i = [x] := by
            match hm : downI m path i, hn with
            | [x], _ => exact ⟨x, rfl⟩
          have hxr : x.2.length ≤ 1000 := gI.row x (by rw [hmi]; simp)
          rw [hmi, build_one] at hnode
          have hhal := fun (w1 : World) (f : Fr No wq w1) => halves_not (hnode.fr0 f) (.inr rfl)
          have hlf := leafm_ok hnode (by omega)
          rw [hmi] at hits
          obtain ⟨ad, R, cx, rfl, x0, x1, hcx, hxrd⟩ := itm_at hits (i := 0) (by simp)
          simp only [List.getElem_cons_zero] at x0 x1 hcx hxrd
          rw [Nat.zero_mul] at x0 x1
          have ha0 : ad.add 0 = ad := by simp [Addr.add]
          rw [ha0] at x0 x1
          obtain ⟨X, hX⟩ : ∃ X, digI (256 - i) (downI m path i) i = X := ⟨_, rfl⟩
          rw [hX] at hdig hrd
          obtain ⟨kx, hkx⟩ : ∃ kx, x.1 = kx := ⟨_, rfl⟩
          obtain ⟨rx, hrx⟩ : ∃ rx, x.2 = rx := ⟨_, rfl⟩
          rw [hkx] at x0 hlf
          rw [hrx] at x1 hlf hxrd
          have HV := Lib.hid (And.intro hhal (And.intro hlf (And.intro hdig (And.intro hrd (And.intro hfr (And.intro hxrd (And.intro x0 x1)))))))
          clear hhal hlf hdig hrd hkr hits hfr hnode hdd hX gI hlI hn h2 hmi h0 hxr hkx hrx hxrd hcx x0 x1 ha0
          go_wp2_with fail
          refine (HV.out.1 _ (Fr.refl _ _)).mono ?_
          rintro e w' ⟨rfl, rfl⟩
          go_wp2_with fail
          refine HV.out.2.1.mono ?_
          rintro e w3 ⟨A3, c3, rfl, hO3, hf3⟩
          have H3 := Lib.hid (And.intro hO3 hf3)
          clear hO3 hf3
          go_wp2_with fail
          refine (HV.out.2.2.1 _ H3.out.2).mono ?_
          rintro e w4 ⟨rfl, hf4⟩
          have H4 := Lib.hid (And.intro (H3.out.2.next hf4 (fun _ _ f => f.elim)) hf4)
          clear hf4
          go_wp2_with fail
          refine (HV.out.2.2.2.1 _ H4.out.1).mono ?_
          rintro e w5 ⟨rfl, hf5⟩
          have hf35 := H4.out.2.next hf5 (fun _ _ f => f.elim)
          have hfq5 := H4.out.1.next hf5 (fun _ _ f => f.elim)
          have x0 := hfq5.cell HV.out.2.2.2.2.2.2.1 (fun f => f)
          have x1 := hfq5.cell HV.out.2.2.2.2.2.2.2 (fun f => f)
          have hby := ref_bytes (c := c3) (d := cx) (H3.out.1.fr0 hf35).rd.2.2 (HV.out.2.2.2.2.2.1.fr0 hfq5)
          rw [decide_eq_true rfl] at hby
          have HB2 := Lib.hid (And.intro hby (HV.out.2.2.2.2.1.next hfq5 (fun _ _ f => f.elim)))
          clear hby hf35 hfq5 hf5
          go_wp2_with fail
          refine HB2.out.1.mono ?_
          rintro e w6 ⟨rfl, hf6⟩
          have H6 := Lib.hid (HB2.out.2.next hf6 (fun _ _ f => f.elim))
          clear hf6
          go_wp2_with fail
          go_ret
          exact ⟨rfl, H6.out⟩
    · obtain rfl : i = path.length := by omega
      have hfr := I.out.fr
      have HF := Lib.hid hfr
      clear hfr
      go_wp2_with fail
      go_ret
      exact ⟨rfl, HF.out⟩
end Go.Proofs.YtlgmodeibmdcgaaDoor
