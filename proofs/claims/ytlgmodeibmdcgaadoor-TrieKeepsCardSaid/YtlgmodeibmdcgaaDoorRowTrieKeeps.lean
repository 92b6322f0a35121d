/- TrieKeeps: its law's texts (Law9n, Law9o) laid into the row. -/
import Derived.Test.YtlgmodeibmdcgaaDoorLaw9i
import Derived.Test.YtlgmodeibmdcgaaDoorGoodK
import Derived.Test.YtlgmodeibmdcgaaDoorLaid
import Derived.Test.YtlgmodeibmdcgaaDoorTie
import Derived.Test.YtlgmodeibmdcgaaDoorCards
import Derived.Test.YtlgmodeibmdcgaaDoorOpen9
import Derived.WalkKit
import Derived.ProofKit
import Derived.OpenShut
import Derived.ShutString
import Derived.ChangeOld
import Derived.Below
import Derived.Carry
import Derived.SizedLaws
import Derived.SevenTiedAt
import Derived.LaidMore
/- Laws of layer 9 (trie): TrieKeeps. -/
set_option linter.unusedVariables false
set_option linter.unusedSimpArgs false
namespace Go.Proofs.YtlgmodeibmdcgaaDoor
open Go.RowKit

theorem foldI_take (m : List Itm) (l : List Act9) {k : Nat} (h : k < l.length) : (l.take (k + 1)).foldl stepI m = stepI ((l.take k).foldl stepI m) l[k] := by
  rw [List.take_succ_eq_append_getElem h, List.foldl_append]; rfl
theorem getL_at {m : List Itm} (r : RiseI m) {i : Nat} (h : i < m.length) : getL m m[i].1 = some m[i].2 := by
  induction m generalizing i with
  | nil => cases h
  | cons y m ih =>
    cases i with
    | zero => simp [getL]
    | succ i =>
      have hi : i < m.length := by simpa using h
      show (if y.1 = m[i].1 then some y.2 else getL m m[i].1) = some m[i].2
      have := r.head (List.getElem_mem hi)
      rw [if_neg (kl_ne this), ih r.tail]

set_option maxHeartbeats 8000000 in
set_option maxRecDepth 100000 in
theorem law_keeps_ok {w : World} {F G : Nat → Prop} {D E : Option Addr} {d e1 : Nat} {l more : List Act9} (h : Rd tAct9 w F D l) (h2 : Rd tAct9 w G E more) (hl : smallB l = true) (hl2 : smallB more = true) (hk : KAt w) :
    Calls Tryd.prog 8 #[.slice D l.length d, .slice E more.length e1] w fun e w' => e = .returned (.bool true) ∧ Fr No w w' := by
  obtain ⟨hrow, hlen⟩ := smallB_all hl
  obtain ⟨hrow2, hlen2⟩ := smallB_all hl2
  obtain ⟨gm, gl⟩ := itemsOf_good hrow hlen
  have hsm := fun (w1 : World) (f : Fr No w w1) => small_ok (c := d) (h.fr0 f)
  have hsm2 := fun (w1 : World) (f : Fr No w w1) => small_ok (c := e1) (h2.fr0 f)
  simp only [hl] at hsm
  simp only [hl2] at hsm2
  have hmd := fun (w1 : World) (f : Fr No w w1) => made_ok (B := w.heap.size) (d := d) (h.fr0 f) hl (hk.fr0 f) f.size
  obtain ⟨m, hm⟩ : ∃ m, itemsOf l = m := ⟨_, rfl⟩
  simp only [hm] at hmd gm gl
  have hml : m.length ≤ 40 := by omega
  have hmli : (m.length : Int) ≤ 40 := by omega
  have hmorei : (more.length : Int) ≤ 40 := by omega
  have hml0 : (0 : Int) ≤ (m.length : Int) := Int.natCast_nonneg _
  have H := Lib.hid (And.intro hsm (And.intro hsm2 (And.intro hmd (And.intro hk (And.intro gm (And.intro hml (And.intro h2 (And.intro hrow2 hlen2))))))))
  have HB := Lib.hid (back_ok hk)
  have HKEY := Lib.hid key_ok
  clear hsm hsm2 hmd hk gm gl hml h2 hrow2 hlen2 hm hrow hlen h hl hl2
  go_enter Tryd.func8, Tryd.ntmps8
  go_wp2_with fail
  refine HB.out.mono ?_
  rintro e w1 ⟨rfl, hf1⟩
  have H1 := Lib.hid hf1
  clear hf1
  go_wp2_with fail
  refine (H.out.1 _ H1.out).mono ?_
  rintro e w' ⟨rfl, rfl⟩
  go_wp2_with fail
  refine (H.out.2.1 _ H1.out).mono ?_
  rintro e w' ⟨rfl, rfl⟩
  go_wp2_with fail
  refine (H.out.2.2.1 _ H1.out).mono ?_
  rintro e w2 ⟨vn, Am, cm, rfl, hM, hf2⟩
  have hfw := H1.out.next hf2 (fun _ _ f => f.elim)
  have hkk := fun (w1 : World) (f : Fr No w2 w1) => (H.out.2.2.2.1.fr0 hfw).fr0 f
  have hdn := fun (w1 : World) (f : Fr No w2 w1) => good_dig (hM.node.fr0 f) (hkk w1 f)
  have hln := fun (w1 : World) (f : Fr No w2 w1) => good_len H.out.2.2.2.2.1 (hM.node.fr0 f)
  obtain ⟨X, hX⟩ : ∃ X, digI 256 m 0 = X := ⟨_, rfl⟩
  rw [hX] at hdn
  have HN := Lib.hid (And.intro hdn (And.intro hln (And.intro hM (And.intro hfw hkk))))
  have hbs : (X.toList == X.toList) = true := beq_self_eq_true _
  clear hdn hln hkk hX hM hfw hf2
  go_wp2_with fail
  refine (HN.out.1 _ (Fr.refl _ _)).mono ?_
  rintro e3 w3 ⟨rfl, hf3⟩
  have H3 := Lib.hid hf3
  clear hf3
  go_wp2_with fail
  go_loopw [8, 9] (fun x iv wr => ∃ k : Nat, k ≤ more.length ∧ iv = .int .i64 (k : Int) ∧ Hid (NodeAt w.heap.size wr x (treeOf ((more.take k).foldl stepI m)) ∧ Fr No w2 wr)) (fun _ iv _ => more.length - (intOf iv).toNat)
  case atStart => exact ⟨0, Nat.zero_le _, rfl, HN.out.2.2.1.node.fr0 H3.out, H3.out⟩
  case round =>
    obtain ⟨k, hk, rfl, J⟩ := hrel
    obtain ⟨hnode, hfr⟩ := J.out
    clear J
    obtain ⟨wp, hwp⟩ : ∃ wp, wp = wr := ⟨_, rfl⟩
    subst hwp
    have hk0 : (0 : Int) ≤ (k : Int) := Int.natCast_nonneg _
    by_cases hlt : k < more.length
    · have hk1 : (k : Int) < (more.length : Int) := by omega
      have hfw := HN.out.2.2.2.1.next hfr (fun _ _ f => f.elim)
      obtain ⟨ad, R, cx, rfl, x0, x1, x2, hx⟩ := act_at (H.out.2.2.2.2.2.2.1.fr0 hfw) hlt
      obtain ⟨gx, gxl⟩ := foldI_good (l := more.take k) (fun a ha => Nat.le_trans (H.out.2.2.2.2.2.2.2.1 a (List.mem_of_mem_take ha)) (by decide)) H.out.2.2.2.2.1 (by rw [List.length_take]; have := H.out.2.2.2.2.2.1; have := H.out.2.2.2.2.2.2.2.2; omega)
      have hsucc := foldI_take m more hlt
      have hxr := H.out.2.2.2.2.2.2.2.1 more[k] (List.getElem_mem hlt)
      have hkr := H.out.2.2.2.1.fr0 hfw
      have hsz := hfw.size
      cases hdel : more[k].1 with
      | true =>
        rw [hdel] at x0
        have hstep : (more.take (k + 1)).foldl stepI m = delL ((more.take k).foldl stepI m) (kq more[k].2.1) := by rw [hsucc]; unfold stepI; rw [hdel]; rfl
        have hd := fun (w1 : World) (f : Fr No wp w1) => good_del gx (kq more[k].2.1) (hnode.fr0 f) (by rw [(kq_key _).size]; decide) (hkr.fr0 f) (Nat.le_trans hsz f.size)
        rw [← hstep] at hd
        obtain ⟨q, hq⟩ : ∃ q, more[k].2.1 = q := ⟨_, rfl⟩
        rw [hq] at x1 hd
        obtain ⟨lr, hlr⟩ : ∃ lr, more[k].2.2.length = lr := ⟨_, rfl⟩
        rw [hlr] at x2
        have HS := Lib.hid (And.intro hd hfr)
        clear hd hstep hsucc hxr hkr hsz hdel hq hlr hx gx gxl hfw hnode hfr
        go_wp2_with fail
        refine (HKEY.out _ _ _ _).mono ?_
        rintro e4 w4 ⟨rfl, hf4⟩
        have H4 := Lib.hid hf4
        clear hf4
        go_wp2_with fail
        refine (HS.out.1 _ H4.out).mono ?_
        rintro e6 w6 ⟨u, rfl, hu, hf6⟩
        have HX := Lib.hid (And.intro hu (HS.out.2.next (H4.out.next hf6 (fun _ _ f => f.elim)) (fun _ _ f => f.elim)))
        clear hu hf6
        go_wp2_with fail
        refine (HN.out.1 _ HX.out.2).mono ?_
        rintro e5 w5 ⟨rfl, hf5⟩
        have H5 := Lib.hid (And.intro hf5 (HX.out.2.next hf5 (fun _ _ f => f.elim)))
        clear hf5
        go_wp2_with fail
        refine (HN.out.2.1 _ H5.out.2).mono ?_
        rintro e w' ⟨rfl, rfl⟩
        go_wp2_with fail
        go_roundw
        case rel => exact ⟨k + 1, by omega, by go_num, HX.out.1.fr0 H5.out.1, H5.out.2⟩
        case measure => simp [intOf]; omega
      | false =>
        rw [hdel] at x0
        have hstep : (more.take (k + 1)).foldl stepI m = putL ((more.take k).foldl stepI m) (kq more[k].2.1, more[k].2.2) := by rw [hsucc]; unfold stepI; rw [hdel]; rfl
        have hput := fun (w1 : World) (f : Fr No wp w1) => good_put (c := cx) gx (kq more[k].2.1) (hnode.fr0 f) (hx.fr0 f) (kq_key _) (by omega) (hkr.fr0 f) (Nat.le_trans hsz f.size)
        rw [← hstep] at hput
        obtain ⟨q, hq⟩ : ∃ q, more[k].2.1 = q := ⟨_, rfl⟩
        rw [hq] at x1 hput
        obtain ⟨lr, hlr⟩ : ∃ lr, more[k].2.2.length = lr := ⟨_, rfl⟩
        rw [hlr] at x2 hput
        have HS := Lib.hid (And.intro hput hfr)
        have g0 := Fr.refl No wp
        clear hput hstep hsucc hxr hkr hsz hdel hq hlr hx gx gxl hfw hnode hfr
        go_wp2_with fail
        go_region_held3 (fun w' => w'.cell? (ad.add (k * 3)) = some (.bool false) ∧ w'.cell? ⟨(ad.add (k * 3)).block, (ad.add (k * 3)).off + 1, none⟩ = some (.int .u8 (q.toNat : Int)) ∧ w'.cell? ⟨(ad.add (k * 3)).block, (ad.add (k * 3)).off + 2, none⟩ = some (.slice R lr cx))
          (first
            | exact ⟨x0, x1, x2⟩
            | exact ⟨q0, q1, q2⟩)
          (first
            | (go_at_call 32; refine (HKEY.out _ _ _ _).mono ?_; rintro e4 w4 ⟨rfl, hf4⟩
               have g1 : Fr No wp w4 := Fr.trans (by repeat (first | assumption | exact Fr.refl _ _ | apply Fr.drew | apply Fr.drewN)) (hf4.mono fun _ _ f => f.elim)
               have q0 := g1.cell x0 (fun f => f)
               have q1 := g1.cell x1 (fun f => f)
               have q2 := g1.cell x2 (fun f => f)
               clear hf4)
            | (go_at_call 13; refine (HS.out.1 _ (by repeat (first | assumption | exact Fr.refl _ _ | apply Fr.drew | apply Fr.drewN))).mono ?_; rintro e6 w6 ⟨u, rfl, hu, hf6⟩
               have g2 : Fr No wp w6 := Fr.trans (by repeat (first | assumption | exact Fr.refl _ _ | apply Fr.drew | apply Fr.drewN)) (hf6.mono fun _ _ f => f.elim)
               have q0 := g2.cell x0 (fun f => f)
               have q1 := g2.cell x1 (fun f => f)
               have q2 := g2.cell x2 (fun f => f)
               have HU := Lib.hid hu
               clear hf6 hu))
        all_goals
          have HX := Lib.hid (And.intro HU.out (HS.out.2.next g2 (fun _ _ f => f.elim)))
          go_wp2_with fail
          refine (HN.out.1 _ HX.out.2).mono ?_
          rintro e5 w5 ⟨rfl, hf5⟩
          have H5 := Lib.hid (And.intro hf5 (HX.out.2.next hf5 (fun _ _ f => f.elim)))
          clear hf5
          go_wp2_with fail
          refine (HN.out.2.1 _ H5.out.2).mono ?_
          rintro e w' ⟨rfl, rfl⟩
          go_wp2_with fail
          go_roundw
          case rel => exact ⟨k + 1, by omega, by go_num, HX.out.1.fr0 H5.out.1, H5.out.2⟩
          case measure => simp [intOf]; omega
    · obtain rfl : k = more.length := by omega
      have HO := Lib.hid hfr
      clear hnode hfr
      go_wp2_with fail
      go_loopw [10] (fun iv wr => ∃ i : Nat, i ≤ m.length ∧ iv = .int .i64 (i : Int) ∧ Hid (Fr No w2 wr)) (fun iv _ => m.length - (intOf iv).toNat)
      case atStart => exact ⟨0, Nat.zero_le _, rfl, HO.out⟩
      case round =>
        obtain ⟨i, hi, rfl, J⟩ := hrel
        obtain ⟨ws, hws⟩ : ∃ ws, ws = wr := ⟨_, rfl⟩
        subst hws
        have hi0 : (0 : Int) ≤ (i : Int) := Int.natCast_nonneg _
        have hM := HN.out.2.2.1.fr0 J.out
        by_cases hlt : i < m.length
        · have hi1 : (i : Int) < (m.length : Int) := by omega
          obtain ⟨ad, R, cx, rfl, x0, x1, _, hx⟩ := itm_at hM.its hlt
          have hget := good_get H.out.2.2.2.2.1 m[i].1 hM.node (by rw [(H.out.2.2.2.2.1.key _ (List.getElem_mem hlt)).size]; decide) (HN.out.2.2.2.2 _ J.out)
          rw [getL_at H.out.2.2.2.2.1.rise hlt] at hget
          obtain ⟨kx, hkx⟩ : ∃ kx, m[i].1 = kx := ⟨_, rfl⟩
          obtain ⟨r, hr⟩ : ∃ r, m[i].2 = r := ⟨_, rfl⟩
          rw [hkx] at x0 hget
          rw [hr] at x1 hget hx
          have HG := Lib.hid (And.intro hget (And.intro hx (And.intro x0 x1)))
          clear hget hkx hr hx hM
          go_wp2_with fail
          refine HG.out.1.mono ?_
          rintro e5 w5 ⟨A5, c5, rfl, hO5, hf5⟩
          have x0 := hf5.cell HG.out.2.2.1 (fun f => f)
          have x1 := hf5.cell HG.out.2.2.2 (fun f => f)
          have hby := ref_bytes (c := c5) (d := cx) hO5.rd.2.2 (HG.out.2.1.fr0 hf5)
          rw [decide_eq_true rfl] at hby
          have H5 := Lib.hid (And.intro hby (J.out.next hf5 (fun _ _ f => f.elim)))
          clear hby hO5 hf5
          go_wp2_with fail
          refine H5.out.1.mono ?_
          rintro e6 w6 ⟨rfl, hf6⟩
          have H6 := Lib.hid (H5.out.2.next hf6 (fun _ _ f => f.elim))
          clear hf6
          go_wp2_with fail
          go_roundw
          case rel => exact ⟨i + 1, by omega, by go_num, H6.out⟩
          case measure => simp [intOf]; omega
        · obtain rfl : i = m.length := by omega
          have hks := good_keys H.out.2.2.2.2.1 hM.node
          have hrk := fun (w1 : World) (f : Fr No ws w1) => ref_keys (c := cm) (hM.its.fr0 f) (by have := H.out.2.2.2.2.2.1; omega)
          have htx := fun (w1 : World) (F G : Nat → Prop) (A B : Option Addr) (c d : Nat) (h1 : Rd Ty.str w1 F A (m.map (·.1))) (h2 : Rd Ty.str w1 G B (m.map (·.1))) => ref_texts (c := c) (d := d) h1 h2
          simp only [List.length_map, decide_true] at htx
          have HD := Lib.hid (And.intro hks (And.intro hrk (And.intro htx (HN.out.2.2.2.1.next J.out (fun _ _ f => f.elim)))))
          clear hks hrk htx hM
          go_wp2_with fail
          refine HD.out.1.mono ?_
          rintro e7 w7 ⟨A7, c7, rfl, hr7, hf7⟩
          have H7 := Lib.hid (And.intro hr7 hf7)
          clear hr7 hf7
          go_wp2_with fail
          refine (HD.out.2.1 _ H7.out.2).mono ?_
          rintro e8 w8 ⟨A8, c8, rfl, hO8, hf8⟩
          have htx8 := HD.out.2.2.1 w8 _ _ A7 A8 c7 c8 (H7.out.1.fr0 hf8) hO8.rd.2.2
          have H8 := Lib.hid (And.intro htx8 (H7.out.2.next hf8 (fun _ _ f => f.elim)))
          clear htx8 hO8 hf8
          go_wp2_with fail
          refine H8.out.1.mono ?_
          rintro e9 w9 ⟨rfl, hf9⟩
          have H9 := Lib.hid (H8.out.2.next hf9 (fun _ _ f => f.elim))
          clear hf9
          go_wp2_with fail
          go_ret
          exact ⟨rfl, HD.out.2.2.2.next H9.out (fun _ _ f => f.elim)⟩
end Go.Proofs.YtlgmodeibmdcgaaDoor
/- Laws of layer 9 (trie): TrieKeeps, whatever the input. -/
set_option linter.unusedVariables false
set_option linter.unusedSimpArgs false
namespace Go.Proofs.YtlgmodeibmdcgaaDoor
open Go.RowKit

set_option maxHeartbeats 2000000 in
set_option maxRecDepth 100000 in
theorem law_keeps {w : World} {F G : Nat → Prop} {D E : Option Addr} {d e1 : Nat} {l more : List Act9} (h : Rd tAct9 w F D l) (h2 : Rd tAct9 w G E more) (hk : KAt w) :
    Calls Tryd.prog 8 #[.slice D l.length d, .slice E more.length e1] w fun e w' => e = .returned (.bool true) ∧ Fr No w w' := by
  have hsm := fun (w1 : World) (f : Fr No w w1) => small_ok (c := d) (h.fr0 f)
  have hsm2 := fun (w1 : World) (f : Fr No w w1) => small_ok (c := e1) (h2.fr0 f)
  have HB := Lib.hid fun (w1 : World) (f : Fr No w w1) => back_ok (hk.fr0 f)
  cases hs : smallB l with
  | false =>
      simp only [hs] at hsm
      have H := Lib.hid (And.intro hsm trivial)
      clear hsm hsm2 h h2 hk hs
      go_enter Tryd.func8, Tryd.ntmps8
      go_wp2_with fail
      refine (HB.out _ (Fr.refl _ _)).mono ?_
      rintro e w1 ⟨rfl, hf1⟩
      have H1 := Lib.hid hf1
      clear hf1
      go_wp2_with fail
      refine (H.out.1 _ H1.out).mono ?_
      rintro e w' ⟨rfl, rfl⟩
      go_wp2_with fail
      refine (HB.out _ H1.out).mono ?_
      rintro e w2 ⟨rfl, hf2⟩
      have H2 := Lib.hid (H1.out.next hf2 (fun _ _ f => f.elim))
      clear hf2
      go_wp2_with fail
      go_ret
      exact ⟨rfl, H2.out⟩
  | true =>
    cases hs2 : smallB more with
    | true => exact law_keeps_ok h h2 hs hs2 hk
    | false =>
      simp only [hs] at hsm
      simp only [hs2] at hsm2
      have H := Lib.hid (And.intro hsm hsm2)
      clear hsm hsm2 h h2 hk hs hs2
      go_enter Tryd.func8, Tryd.ntmps8
      go_wp2_with fail
      refine (HB.out _ (Fr.refl _ _)).mono ?_
      rintro e w1 ⟨rfl, hf1⟩
      have H1 := Lib.hid hf1
      clear hf1
      go_wp2_with fail
      refine (H.out.1 _ H1.out).mono ?_
      rintro e w' ⟨rfl, rfl⟩
      go_wp2_with fail
      refine (H.out.2 _ H1.out).mono ?_
      rintro e w' ⟨rfl, rfl⟩
      go_wp2_with fail
      refine (HB.out _ H1.out).mono ?_
      rintro e w2 ⟨rfl, hf2⟩
      have H2 := Lib.hid (H1.out.next hf2 (fun _ _ f => f.elim))
      clear hf2
      go_wp2_with fail
      go_ret
      exact ⟨rfl, H2.out⟩
end Go.Proofs.YtlgmodeibmdcgaaDoor
/- The law TrieKeeps of the seat: for every input it returns true, and its arguments read as before; the table of the rounds' numbers is tied to the program's text. -/
set_option linter.unusedVariables false
namespace Go.Proofs.YtlgmodeibmdcgaaDoor.trieKeeps
open Go.ChangeShapes Go.WideShapes Go.ChangeAt Go.RowKit
open Go.ChangeMaps (open_string shut_string)
set_option maxRecDepth 100000 in
theorem lifted (os : Os) (started : os.Started) (H : Type) (enc : TypeId × Value → H) :
    ReturnsInHanded {} Tryd.checked os 8 .any (fun w args => (Rows.trieKeepsSpec.pre enc Tryd.prog Tryd.f8 [] false w args ∧ laidMetH Tryd.prog lay9 w) ∧ sizedMet enc Tryd.prog Tryd.f8 (OpenSpec.ofChange Rows.trieKeepsSpec) false w args)
      (Rows.trieKeepsSpec.post enc Tryd.prog Tryd.f8 false true false false) := by
  refine returnsInHanded_of_change_and (C := Tryd.checked) (X := fun w _ => laidMetH Tryd.prog lay9 w) (fun _ _ _ hh h => h.of_heap hh) own started (by kernel_rfl) Tryd.func8
    (ChangeSpec.witness_shaped (enc := enc) (C := Tryd.checked) (os := os) (X := fun w _ => laidMetH Tryd.prog lay9 w) false (World.doorLaid Tryd.prog 400 os) #[.slice none 0 0, .slice none 0 0] 8 rfl (World.shaped_of_RefB (by kernel_rfl) (by kernel_rfl)) (by kernel_rfl) (by kernel_rfl) (by kernel_rfl) (door_met os _)) ?_
  intro W base args ds gs before hval0 hW hcnd hsz0 hL _
  have hsz : (DataW.weightsEach Tryd.prog (Tryd.f8.params.toList ++ Rows.trieKeepsSpec.plain.varTypes Tryd.prog) (ds ++ gs)).all (· ≤ reachBytes) = true := hsz0
  have hK := kat_of_laid hL
  have hval : ∀ (j : Nat) t v, Tryd.f8.params[j]? = some t → args[j]? = some v → Value.okWide Tryd.prog W .any base t v := hval0
  have hW' := hW
  obtain ⟨p, q, hA0, hV, rfl, hfz, hnd⟩ := hW
  have hA : DataW.TrodAll enc Tryd.prog W 0 (fun _ => true) true Tryd.f8.params.toList args.toList ds p := hA0
  rw [Tryd.params8] at hA hval hsz
  obtain ⟨v0, vs0, d0, ds0, p0, q0, hargs, rfl, rfl, h0, rest0⟩ := trodAll_cons hA
  obtain ⟨v1, vs1, d1, ds1, p1, q1, rfl, rfl, rfl, h1, rest1⟩ := trodAll_cons rest0
  obtain ⟨rfl, rfl, rfl⟩ := trodAll_nil rest1
  obtain rfl : args = #[v0, v1] := by cases args; simp_all
  obtain ⟨rfl, rfl⟩ := trodVars_none hV
  obtain ⟨a0, len0, c0, rfl⟩ := okWide_slice Tryd.underlying22 (hval 0 22 v0 rfl rfl)
  have k0 := h0
  have lt0 : ∀ x ∈ p0, x.block < W.heap.size := by obtain ⟨m, hm⟩ := k0; exact DataW.trod_lt m _ _ _ hm
  obtain ⟨x0, rfl, l0, r0⟩ := open_top (t := tAct9) opens_acts h0
  obtain ⟨a1, len1, c1, rfl⟩ := okWide_slice Tryd.underlying22 (hval 1 22 v1 rfl rfl)
  have k1 := h1
  have lt1 : ∀ x ∈ p1, x.block < W.heap.size := by obtain ⟨m, hm⟩ := k1; exact DataW.trod_lt m _ _ _ hm
  obtain ⟨x1, rfl, l1, r1⟩ := open_top (t := tAct9) opens_acts h1
  clear hA0 hval0 hsz0 hsz
  refine (law_keeps (d := c0) (e1 := c1) r0 r1 hK).mono fun e W' ⟨he, hfr⟩ => ?_
  have bel := hfr.to_below
  subst he
  exact ⟨_, rfl, _, _, _, [], _, [], hW', trodAll_mk1 (shut_bool Tryd.underlying4 _), (trodAll_cons_mk (Below.trod laidOut (by kernel_rfl) (of_decide_eq_true (by kernel_rfl)) k0 bel lt0) (trodAll_cons_mk (Below.trod laidOut (by kernel_rfl) (of_decide_eq_true (by kernel_rfl)) k1 bel lt1) trodAll_mk0)), rfl, bel.frame _, fun h => by cases h⟩
theorem over : Rows.trieKeepsRow.holds Tryd.pinned (OpenSpec.ofChange Rows.trieKeepsSpec) :=
  OpenClaim.holds_of_wide 8 Tryd.f8 rfl rfl rfl rfl rfl rfl rfl ⟨rfl, rfl, rfl, rfl, rfl⟩ rfl rfl rfl rfl rfl (by kernel_rfl) Tryd.func8 (by kernel_rfl)
    (of_decide_eq_true (by kernel_rfl)) (by unfold Func.isWrapper; first | (rw [if_pos (by decide +kernel)]; kernel_rfl) | (rw [if_neg (by decide +kernel)]; exact ⟨rfl, rfl⟩))
    (fun os started H enc _ => lifted os started H enc)
end Go.Proofs.YtlgmodeibmdcgaaDoor.trieKeeps
namespace Go.Proofs.YtlgmodeibmdcgaaDoor
open Go
theorem trieKeeps_holds : Rows.TrieKeepsCardSaid :=
  Claim7.holds_tied_plain_at .later [] [.data] true Rows.trieKeepsCard.stood.harness false
    trieKeeps.over (fun _ h => by cases h) (by kernel_rfl) (fun _ h => by cases h) trieKeeps_row_tie rfl ⟨rfl, rfl⟩ (by kernel_rfl) rfl
    (fun f fn hf hfn => by
      obtain rfl : f = 8 := Option.some.inj ((show Tryd.prog.funcNamed "countinghouse/countinghouselaw09.TrieKeeps" = some 8 by kernel_rfl).symm.trans hf) |>.symm
      obtain rfl : fn = Tryd.f8 := (Option.some.inj (Tryd.func8.symm.trans hfn)).symm
      exact ⟨by kernel_rfl, fun j t ht => by
        rw [Tryd.params8] at ht
        have hm : t ∈ [22] := by have := Array.mem_of_getElem? ht; simpa using this
        have hall : ([22].all fun u => !Tryd.prog.wantsStandIn u) = true := by kernel_rfl
        exact (show Tryd.prog.wantsStandIn t = false by simpa using List.all_eq_true.1 hall t hm)⟩)
    (by kernel_rfl)
end Go.Proofs.YtlgmodeibmdcgaaDoor
