/- TriePlays: its law's texts (Law9l, Law9m) laid into the row. -/
import Derived.Test.YtlgmodeibmdcgaaDoorLaw9i
import Derived.Test.YtlgmodeibmdcgaaDoorGoodK
import Derived.Test.YtlgmodeibmdcgaaDoorLaid
import Derived.Test.YtlgmodeibmdcgaaDoorTie
import Derived.Test.YtlgmodeibmdcgaaDoorCards
import Derived.Test.YtlgmodeibmdcgaaDoorOpen9
import Derived.WalkKit
import Derived.ProofKit
import Derived.OpenShut
import Derived.ShutString
import Derived.ChangeOld
import Derived.Below
import Derived.Carry
import Derived.SizedLaws
import Derived.SevenTiedAt
import Derived.LaidMore
/- Laws of layer 9 (trie): TriePlays. -/
set_option linter.unusedVariables false
set_option linter.unusedSimpArgs false
namespace Go.Proofs.YtlgmodeibmdcgaaDoor
open Go.RowKit

set_option maxHeartbeats 8000000 in
set_option maxRecDepth 100000 in
theorem law_plays_ok {w : World} {F : Nat → Prop} {D : Option Addr} {d : Nat} {l : List Act9} (h : Rd tAct9 w F D l) (hl : smallB l = true) (hk : KAt w) :
    Calls Tryd.prog 7 #[.slice D l.length d] w fun e w' => e = .returned (.bool true) ∧ Fr No w w' := by
  obtain ⟨hrow, hlen⟩ := smallB_all hl
  obtain ⟨gm, gl⟩ := itemsOf_good hrow hlen
  have hsm := fun (w1 : World) (f : Fr No w w1) => small_ok (c := d) (h.fr0 f)
  simp only [hl] at hsm
  have hmd := fun (w1 : World) (f : Fr No w w1) => made_ok (B := w.heap.size) (d := d) (h.fr0 f) hl (hk.fr0 f) f.size
  obtain ⟨m, hm⟩ : ∃ m, itemsOf l = m := ⟨_, rfl⟩
  simp only [hm] at hmd gm gl
  have hml : m.length ≤ 40 := by omega
  have H := Lib.hid (And.intro hsm (And.intro hmd (And.intro hk (And.intro gm hml))))
  have HB := Lib.hid (back_ok hk)
  have hmli : (m.length : Int) ≤ 40 := by omega
  clear hsm hmd hk gm gl hml hm hrow hlen h hl
  go_enter Tryd.func7, Tryd.ntmps7
  go_wp2_with fail
  refine HB.out.mono ?_
  rintro e w1 ⟨rfl, hf1⟩
  have H1 := Lib.hid hf1
  clear hf1
  go_wp2_with fail
  refine (H.out.1 _ H1.out).mono ?_
  rintro e w' ⟨rfl, rfl⟩
  go_wp2_with fail
  refine (H.out.2.1 _ H1.out).mono ?_
  rintro e w2 ⟨v2, A2, c2, rfl, hM, hf2⟩
  have H2 := Lib.hid (And.intro hM (H1.out.next hf2 (fun _ _ f => f.elim)))
  clear hM hf2
  go_wp2_with fail
  go_loopw [5] (fun iv wr => ∃ k : Nat, k ≤ 24 ∧ iv = .int .i64 (k : Int) ∧ Hid (Fr No w2 wr)) (fun iv _ => 24 - (intOf iv).toNat)
  case atStart => exact ⟨0, by omega, rfl, Fr.refl _ _⟩
  case round =>
    obtain ⟨k, hk, rfl, I⟩ := hrel
    obtain ⟨wq, hwq⟩ : ∃ wq, wq = wr := ⟨_, rfl⟩
    subst hwq
    have hk0 : (0 : Int) ≤ (k : Int) := Int.natCast_nonneg _
    by_cases hlt : k < 24
    · have hk1 : (k : Int) < 24 := by omega
      obtain ⟨b, hb⟩ : ∃ b, UInt8.ofNat k = b := ⟨_, rfl⟩
      have hbk : (k : Int) = (b.toNat : Int) := by rw [← hb, UInt8.toNat_ofNat']; omega
      obtain ⟨key, hkey⟩ : ∃ key, key2 107 b = key := ⟨_, rfl⟩
      have hks : key.size ≤ 1000 := by rw [← hkey]; show 2 ≤ 1000; decide
      have kg := fun (w' : World) (g : Nat) => run_two_at w' g 107 b (x := 107) (y := (k : Int)) rfl hbk
      have kc1 := fun w0 : World => kg (w0.alloc (.cells #[.int .u8 107, .int .u8 (k : Int)] 5)) w0.heap.size (heap_alloc_new w0 _)
      rw [hkey] at kc1
      have hget := fun (w1 : World) (f : Fr No wq w1) => good_get H.out.2.2.2.1 key ((H2.out.1.node.fr0 I.out).fr0 f) hks ((H.out.2.2.1.fr0 (H2.out.2.next I.out (fun _ _ f => f.elim))).fr0 f)
      have hrget := fun (w1 : World) (f : Fr No wq w1) => ref_get (c := c2) key ((H2.out.1.its.fr0 I.out).fr0 f) (by have := H.out.2.2.2.2; omega)
      have hbk2 : IntKind.u8.wrap (k : Int) = (k : Int) := by show (k : Int) % 256 = _; omega
      cases hg : getL m key with
      | none =>
        rw [hg] at hget hrget
        have HG := Lib.hid (And.intro hget hrget)
        have HBy := Lib.hid fun w => ref_bytes (w := w) (F := fun _ => True) (G := fun _ => True) (A := none) (B := none) (c := 0) (d := 0) (xs := []) (ys := []) Rd.nil Rd.nil
        clear hget hrget kg hg hks hkey hb hbk
        go_wp2_with fail
        refine (HG.out.1 _ ((Fr.refl No wq).alloc _)).mono ?_
        rintro e w3 ⟨rfl, hf3⟩
        have H3 := Lib.hid (((Fr.refl No wq).alloc _).next hf3 (fun _ _ f => f.elim))
        clear hf3
        go_wp2_with fail
        refine (HG.out.2 _ (H3.out.alloc _)).mono ?_
        rintro e w4 ⟨rfl, rfl⟩
        have H4 := Lib.hid (H3.out.alloc (.cells #[.int .u8 107, .int .u8 (k : Int)] 5))
        go_wp2_with fail
        refine (HBy.out _).mono ?_
        rintro e w5 ⟨rfl, hf5⟩
        have H5 := Lib.hid (H4.out.next hf5 (fun _ _ f => f.elim))
        clear hf5
        go_wp2_with fail
        go_roundw
        case rel => exact ⟨k + 1, by omega, by go_num, I.out.next H5.out (fun _ _ f => f.elim)⟩
        case measure => simp [intOf]; omega
      | some r =>
        rw [hg] at hget hrget
        have HG := Lib.hid (And.intro hget hrget)
        clear hget hrget kg hg hks hkey hb hbk
        go_wp2_with fail
        refine (HG.out.1 _ ((Fr.refl No wq).alloc _)).mono ?_
        rintro e w3 ⟨A3, c3, rfl, hO3, hf3⟩
        have H3 := Lib.hid (And.intro hO3 (((Fr.refl No wq).alloc _).next hf3 (fun _ _ f => f.elim)))
        clear hf3 hO3
        go_wp2_with fail
        refine (HG.out.2 _ (H3.out.2.alloc _)).mono ?_
        rintro e w4 ⟨A4, c4, rfl, _, hr4, rfl⟩
        have hby := ref_bytes (c := c3) (d := c4) (H3.out.1.rd.2.2.fr0 ((Fr.refl No w3).alloc (.cells #[.int .u8 107, .int .u8 (k : Int)] 5))) hr4
        rw [decide_eq_true rfl] at hby
        have H4 := Lib.hid (And.intro hby (H3.out.2.alloc (.cells #[.int .u8 107, .int .u8 (k : Int)] 5)))
        clear hby hr4
        go_wp2_with fail
        refine H4.out.1.mono ?_
        rintro e w5 ⟨rfl, hf5⟩
        have H5 := Lib.hid (H4.out.2.next hf5 (fun _ _ f => f.elim))
        clear hf5
        go_wp2_with fail
        go_roundw
        case rel => exact ⟨k + 1, by omega, by go_num, I.out.next H5.out (fun _ _ f => f.elim)⟩
        case measure => simp [intOf]; omega
    · obtain rfl : k = 24 := by omega
      have hfw := H2.out.2.next I.out (fun _ _ f => f.elim)
      have hM := H2.out.1.fr0 I.out
      have hkk := fun (w1 : World) (f : Fr No wq w1) => (H.out.2.2.1.fr0 hfw).fr0 f
      have hdn := fun (w1 : World) (f : Fr No wq w1) => good_dig (hM.node.fr0 f) (hkk w1 f)
      have hrm := fun (w1 : World) (f : Fr No wq w1) => ref_digest (c := c2) 256 (d := 0) rfl (hM.its.fr0 f) H.out.2.2.2.1.small (by have := H.out.2.2.2.2; omega) (Nat.le_trans hfw.size f.size)
      rw [show ((0 : Nat) : Int) = 0 from rfl] at hrm
      have hln := fun (w1 : World) (f : Fr No wq w1) => good_len H.out.2.2.2.1 (hM.node.fr0 f)
      have hks := fun (w1 : World) (f : Fr No wq w1) => good_keys H.out.2.2.2.1 (hM.node.fr0 f)
      have hrk := fun (w1 : World) (f : Fr No wq w1) => ref_keys (c := c2) (hM.its.fr0 f) (by have := H.out.2.2.2.2; omega)
      obtain ⟨X, hX⟩ : ∃ X, digI 256 m 0 = X := ⟨_, rfl⟩
      rw [hX] at hdn hrm
      have htx := fun (w1 : World) (F G : Nat → Prop) (A B : Option Addr) (c d : Nat) (h1 : Rd Ty.str w1 F A (m.map (·.1))) (h2 : Rd Ty.str w1 G B (m.map (·.1))) => ref_texts (c := c) (d := d) h1 h2
      simp only [List.length_map, decide_true] at htx
      have hnil := hM.node.nil_iff
      rw [treeOf_nil] at hnil
      have hptr := fun hn => hM.node.ptr (t := treeOf m) hn
      rw [treeOf_nil] at hptr
      have HD := Lib.hid (And.intro hdn (And.intro hrm (And.intro hln (And.intro hks (And.intro hrk (And.intro htx hfw))))))
      clear hdn hrm hln hks hrk htx hkk hX hM
      cases hem : m.isEmpty with
      | true =>
        obtain rfl : m = [] := by simpa using hem
        obtain rfl : v2 = .pointer none := hnil.2 rfl
        clear hnil hptr hem hfw
        have hbs : (X.toList == X.toList) = true := beq_self_eq_true _
        go_wp2_with fail
        refine (HD.out.1 _ (Fr.refl _ _)).mono ?_
        rintro e5 w5 ⟨rfl, hf5⟩
        have H5 := Lib.hid hf5
        clear hf5
        go_wp2_with fail
        refine (HD.out.2.1 _ H5.out).mono ?_
        rintro e6 w6 ⟨rfl, hf6⟩
        have H6 := Lib.hid (H5.out.next hf6 (fun _ _ f => f.elim))
        clear hf6
        go_wp2_with fail
        refine (HD.out.2.2.1 _ H6.out).mono ?_
        rintro e w' ⟨rfl, rfl⟩
        go_wp2_with fail
        refine (HD.out.2.2.2.1 _ H6.out).mono ?_
        rintro e7 w7 ⟨A7, c7, rfl, hr7, hf7⟩
        have H7 := Lib.hid (And.intro hr7 (H6.out.next hf7 (fun _ _ f => f.elim)))
        clear hr7 hf7
        go_wp2_with fail
        refine (HD.out.2.2.2.2.1 _ H7.out.2).mono ?_
        rintro e8 w8 ⟨A8, c8, rfl, hO8, hf8⟩
        have htx8 := HD.out.2.2.2.2.2.1 w8 _ _ A7 A8 c7 c8 (H7.out.1.fr0 hf8) hO8.rd.2.2
        have H8 := Lib.hid (And.intro htx8 (H7.out.2.next hf8 (fun _ _ f => f.elim)))
        clear htx8 hO8 hf8
        go_wp2_with fail
        refine H8.out.1.mono ?_
        rintro e9 w9 ⟨rfl, hf9⟩
        have H9 := Lib.hid (H8.out.2.next hf9 (fun _ _ f => f.elim))
        clear hf9
        go_wp2_with fail
        go_ret
        exact ⟨rfl, HD.out.2.2.2.2.2.2.next H9.out (fun _ _ f => f.elim)⟩
      | false =>
        obtain ⟨b, rfl⟩ := hptr hem
        have hm0 : ((m.length : Int) == 0) = false := beq_eq_false_iff_ne.2 (by
          intro e
          have : m = [] := List.eq_nil_of_length_eq_zero (by omega)
          rw [this] at hem; cases hem)
        clear hnil hptr hem hfw
        have hbs : (X.toList == X.toList) = true := beq_self_eq_true _
        go_wp2_with fail
        refine (HD.out.1 _ (Fr.refl _ _)).mono ?_
        rintro e5 w5 ⟨rfl, hf5⟩
        have H5 := Lib.hid hf5
        clear hf5
        go_wp2_with fail
        refine (HD.out.2.1 _ H5.out).mono ?_
        rintro e6 w6 ⟨rfl, hf6⟩
        have H6 := Lib.hid (H5.out.next hf6 (fun _ _ f => f.elim))
        clear hf6
        go_wp2_with fail
        refine (HD.out.2.2.1 _ H6.out).mono ?_
        rintro e w' ⟨rfl, rfl⟩
        go_wp2_with fail
        refine (HD.out.2.2.2.1 _ H6.out).mono ?_
        rintro e7 w7 ⟨A7, c7, rfl, hr7, hf7⟩
        have H7 := Lib.hid (And.intro hr7 (H6.out.next hf7 (fun _ _ f => f.elim)))
        clear hr7 hf7
        go_wp2_with fail
        refine (HD.out.2.2.2.2.1 _ H7.out.2).mono ?_
        rintro e8 w8 ⟨A8, c8, rfl, hO8, hf8⟩
        have htx8 := HD.out.2.2.2.2.2.1 w8 _ _ A7 A8 c7 c8 (H7.out.1.fr0 hf8) hO8.rd.2.2
        have H8 := Lib.hid (And.intro htx8 (H7.out.2.next hf8 (fun _ _ f => f.elim)))
        clear htx8 hO8 hf8
        go_wp2_with fail
        refine H8.out.1.mono ?_
        rintro e9 w9 ⟨rfl, hf9⟩
        have H9 := Lib.hid (H8.out.2.next hf9 (fun _ _ f => f.elim))
        clear hf9
        go_wp2_with fail
        go_ret
        exact ⟨rfl, HD.out.2.2.2.2.2.2.next H9.out (fun _ _ f => f.elim)⟩
end Go.Proofs.YtlgmodeibmdcgaaDoor
/- Laws of layer 9 (trie): TriePlays, whatever the input. -/
set_option linter.unusedVariables false
set_option linter.unusedSimpArgs false
namespace Go.Proofs.YtlgmodeibmdcgaaDoor
open Go.RowKit

set_option maxHeartbeats 2000000 in
set_option maxRecDepth 100000 in
theorem law_plays {w : World} {F : Nat → Prop} {D : Option Addr} {d : Nat} {l : List Act9} (h : Rd tAct9 w F D l) (hk : KAt w) :
    Calls Tryd.prog 7 #[.slice D l.length d] w fun e w' => e = .returned (.bool true) ∧ Fr No w w' := by
  have hsm := fun (w1 : World) (f : Fr No w w1) => small_ok (c := d) (h.fr0 f)
  have HB := Lib.hid fun (w1 : World) (f : Fr No w w1) => back_ok (hk.fr0 f)
  cases hs : smallB l with
  | true => exact law_plays_ok h hs hk
  | false =>
      simp only [hs] at hsm
      have H := Lib.hid hsm
      clear hsm h hk hs
      go_enter Tryd.func7, Tryd.ntmps7
      go_wp2_with fail
      refine (HB.out _ (Fr.refl _ _)).mono ?_
      rintro e w1 ⟨rfl, hf1⟩
      have H1 := Lib.hid hf1
      clear hf1
      go_wp2_with fail
      refine (H.out _ H1.out).mono ?_
      rintro e w' ⟨rfl, rfl⟩
      go_wp2_with fail
      refine (HB.out _ H1.out).mono ?_
      rintro e w2 ⟨rfl, hf2⟩
      have H2 := Lib.hid (H1.out.next hf2 (fun _ _ f => f.elim))
      clear hf2
      go_wp2_with fail
      go_ret
      exact ⟨rfl, H2.out⟩
end Go.Proofs.YtlgmodeibmdcgaaDoor
/- The law TriePlays of the seat: for every input it returns true, and its arguments read as before; the table of the rounds' numbers is tied to the program's text. -/
set_option linter.unusedVariables false
namespace Go.Proofs.YtlgmodeibmdcgaaDoor.triePlays
open Go.ChangeShapes Go.WideShapes Go.ChangeAt Go.RowKit
open Go.ChangeMaps (open_string shut_string)
set_option maxRecDepth 100000 in
theorem lifted (os : Os) (started : os.Started) (H : Type) (enc : TypeId × Value → H) :
    ReturnsInHanded {} Tryd.checked os 7 .any (fun w args => (Rows.triePlaysSpec.pre enc Tryd.prog Tryd.f7 [] false w args ∧ laidMetH Tryd.prog lay9 w) ∧ sizedMet enc Tryd.prog Tryd.f7 (OpenSpec.ofChange Rows.triePlaysSpec) false w args)
      (Rows.triePlaysSpec.post enc Tryd.prog Tryd.f7 false true false false) := by
  refine returnsInHanded_of_change_and (C := Tryd.checked) (X := fun w _ => laidMetH Tryd.prog lay9 w) (fun _ _ _ hh h => h.of_heap hh) own started (by kernel_rfl) Tryd.func7
    (ChangeSpec.witness_shaped (enc := enc) (C := Tryd.checked) (os := os) (X := fun w _ => laidMetH Tryd.prog lay9 w) false (World.doorLaid Tryd.prog 400 os) #[.slice none 0 0] 8 rfl (World.shaped_of_RefB (by kernel_rfl) (by kernel_rfl)) (by kernel_rfl) (by kernel_rfl) (by kernel_rfl) (door_met os _)) ?_
  intro W base args ds gs before hval0 hW hcnd hsz0 hL _
  have hsz : (DataW.weightsEach Tryd.prog (Tryd.f7.params.toList ++ Rows.triePlaysSpec.plain.varTypes Tryd.prog) (ds ++ gs)).all (· ≤ reachBytes) = true := hsz0
  have hK := kat_of_laid hL
  have hval : ∀ (j : Nat) t v, Tryd.f7.params[j]? = some t → args[j]? = some v → Value.okWide Tryd.prog W .any base t v := hval0
  have hW' := hW
  obtain ⟨p, q, hA0, hV, rfl, hfz, hnd⟩ := hW
  have hA : DataW.TrodAll enc Tryd.prog W 0 (fun _ => true) true Tryd.f7.params.toList args.toList ds p := hA0
  rw [Tryd.params7] at hA hval hsz
  obtain ⟨v0, vs0, d0, ds0, p0, q0, hargs, rfl, rfl, h0, rest0⟩ := trodAll_cons hA
  obtain ⟨rfl, rfl, rfl⟩ := trodAll_nil rest0
  obtain rfl : args = #[v0] := by cases args; simp_all
  obtain ⟨rfl, rfl⟩ := trodVars_none hV
  obtain ⟨a0, len0, c0, rfl⟩ := okWide_slice Tryd.underlying22 (hval 0 22 v0 rfl rfl)
  have k0 := h0
  have lt0 : ∀ x ∈ p0, x.block < W.heap.size := by obtain ⟨m, hm⟩ := k0; exact DataW.trod_lt m _ _ _ hm
  obtain ⟨x0, rfl, l0, r0⟩ := open_top (t := tAct9) opens_acts h0
  clear hA0 hval0 hsz0 hsz
  refine (law_plays (d := c0) r0 hK).mono fun e W' ⟨he, hfr⟩ => ?_
  have bel := hfr.to_below
  subst he
  exact ⟨_, rfl, _, _, _, [], _, [], hW', trodAll_mk1 (shut_bool Tryd.underlying4 _), (trodAll_cons_mk (Below.trod laidOut (by kernel_rfl) (of_decide_eq_true (by kernel_rfl)) k0 bel lt0) trodAll_mk0), rfl, bel.frame _, fun h => by cases h⟩
theorem over : Rows.triePlaysRow.holds Tryd.pinned (OpenSpec.ofChange Rows.triePlaysSpec) :=
  OpenClaim.holds_of_wide 7 Tryd.f7 rfl rfl rfl rfl rfl rfl rfl ⟨rfl, rfl, rfl, rfl, rfl⟩ rfl rfl rfl rfl rfl (by kernel_rfl) Tryd.func7 (by kernel_rfl)
    (of_decide_eq_true (by kernel_rfl)) (by unfold Func.isWrapper; first | (rw [if_pos (by decide +kernel)]; kernel_rfl) | (rw [if_neg (by decide +kernel)]; exact ⟨rfl, rfl⟩))
    (fun os started H enc _ => lifted os started H enc)
end Go.Proofs.YtlgmodeibmdcgaaDoor.triePlays
namespace Go.Proofs.YtlgmodeibmdcgaaDoor
open Go
theorem triePlays_holds : Rows.TriePlaysCardSaid :=
  Claim7.holds_tied_plain_at .later [] [.data] true Rows.triePlaysCard.stood.harness false
    triePlays.over (fun _ h => by cases h) (by kernel_rfl) (fun _ h => by cases h) triePlays_row_tie rfl ⟨rfl, rfl⟩ (by kernel_rfl) rfl
    (fun f fn hf hfn => by
      obtain rfl : f = 7 := Option.some.inj ((show Tryd.prog.funcNamed "countinghouse/countinghouselaw09.TriePlays" = some 7 by kernel_rfl).symm.trans hf) |>.symm
      obtain rfl : fn = Tryd.f7 := (Option.some.inj (Tryd.func7.symm.trans hfn)).symm
      exact ⟨by kernel_rfl, fun j t ht => by
        rw [Tryd.params7] at ht
        have hm : t ∈ [22] := by have := Array.mem_of_getElem? ht; simpa using this
        have hall : ([22].all fun u => !Tryd.prog.wantsStandIn u) = true := by kernel_rfl
        exact (show Tryd.prog.wantsStandIn t = false by simpa using List.all_eq_true.1 hall t hm)⟩)
    (by kernel_rfl)
end Go.Proofs.YtlgmodeibmdcgaaDoor
