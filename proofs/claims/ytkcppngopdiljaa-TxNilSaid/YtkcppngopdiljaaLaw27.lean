/- Laws of layer 14 (tx): TxNil. -/
import Derived.Test.YtkcppngopdiljaaLaw20
import Derived.Test.YtkcppngopdiljaaTx13
set_option linter.unusedVariables false
set_option linter.unusedSimpArgs false
namespace Go.Proofs.Ytkcppngopdiljaa
open Go.RowKit

set_option maxHeartbeats 2000000 in
set_option maxRecDepth 100000 in
theorem law_txnil (key : ByteArray) (most : Int) (w : World) : Calls Try.prog 8 #[.string key, .int .i64 most] w fun e w' => e = .returned (.bool true) ∧ Fr No w w' := by
  have hone := Lib.hid law_both
  by_cases hk : (key.size : Int) > 60
  · go_enter Try.func8, Try.ntmps8
    go_wp2_with fail
    refine (hone.out w).mono ?_
    rintro e1 w1 ⟨rfl, hf1⟩
    have HF1 := Lib.hid hf1
    clear hf1
    go_wp2_with fail
    go_ret
    exact ⟨rfl, HF1.out⟩
  · go_enter Try.func8, Try.ntmps8
    go_wp2_with fail
    refine (store_new w).mono ?_
    rintro e1 w1 ⟨s1, rfl, _, hf1⟩
    have HF1 := Lib.hid hf1
    clear hf1
    go_wp2_with fail
    refine (tx_get_nil _ key w1).mono ?_
    rintro e2 w2 ⟨rfl, hf2⟩
    have HF2 := Lib.hid (HF1.out.trans (hf2.mono fun _ _ f => f.elim))
    clear hf2
    go_wp2_with fail
    refine (tx_new 3 w2).mono ?_
    rintro e3 w3 ⟨yb, rfl, hy, hf3⟩
    have HY := Lib.hid hy
    have HF3 := Lib.hid (HF2.out.trans (hf3.mono fun _ _ f => f.elim))
    have hg := tx_get_none (sp := none) key hy (by unfold wfind; rfl) (fun w' f => store_get_nil 3 key w')
    have HG := Lib.hid hg
    clear hf3 hy hg
    go_wp2_with fail
    refine HG.out.mono ?_
    rintro e4 w4 ⟨⟨A4, c4, rfl, _⟩, hf4⟩
    have HY4 := Lib.hid (HY.out.fr0 hf4)
    have HF4 := Lib.hid (HF3.out.trans (hf4.mono fun _ _ f => f.elim))
    clear hf4
    go_wp2_with fail
    refine (hone.out w4).mono ?_
    rintro e5 w5 ⟨rfl, hf5⟩
    have HY5 := Lib.hid (HY4.out.fr0 hf5)
    have HF5 := Lib.hid (HF4.out.trans (hf5.mono fun _ _ f => f.elim))
    clear hf5
    go_wp2_with fail
    refine (tx_put_nil key none 0 0 (F := No) (row := []) Rd.nil rfl (by simp)).mono ?_
    rintro e6 w6 ⟨rfl, hf6⟩
    have HY6 := Lib.hid (HY5.out.fr0 hf6)
    have HF6 := Lib.hid (HF5.out.trans (hf6.mono fun _ _ f => f.elim))
    clear hf6
    go_wp2_with fail
    refine (tx_del_nil key w6).mono ?_
    rintro e7 w7 ⟨rfl, hf7⟩
    have HY7 := Lib.hid (HY6.out.fr0 hf7)
    have HF7 := Lib.hid (HF6.out.trans (hf7.mono fun _ _ f => f.elim))
    clear hf7
    go_wp2_with fail
    refine (tx_base_nil w7).mono ?_
    rintro e8 w8 ⟨rfl, rfl⟩
    go_wp2_with fail
    refine (store_new w8).mono ?_
    rintro e9 w9 ⟨s9, rfl, _, hf9⟩
    have HY9 := Lib.hid (HY7.out.fr0 hf9)
    have HF9 := Lib.hid (HF7.out.trans (hf9.mono fun _ _ f => f.elim))
    clear hf9
    go_wp2_with fail
    refine (tx_scan_nil _ _ _ most w9).mono ?_
    rintro e10 w10 ⟨rfl, hf10⟩
    have HY10 := Lib.hid (HY9.out.fr0 hf10)
    have HF10 := Lib.hid (HF9.out.trans (hf10.mono fun _ _ f => f.elim))
    clear hf10
    go_wp2_with fail
    refine (tx_writes_nil w10).mono ?_
    rintro e11 w11 ⟨rfl, rfl⟩
    have hsc := tx_scan_nostore HY10.out (by simp) (fun x hx => by cases hx) ⟨#[]⟩ ⟨#[]⟩ most
    rw [xscan_none] at hsc
    have HS := Lib.hid hsc
    clear hsc
    go_wp2_with fail
    refine HS.out.mono ?_
    rintro e12 w12 ⟨A12, c12, rfl, _, hf12⟩
    have HY12 := Lib.hid (HY10.out.fr0 hf12)
    have HF12 := Lib.hid (HF10.out.trans (hf12.mono fun _ _ f => f.elim))
    clear hf12
    go_wp2_with fail
    refine (store_new w12).mono ?_
    rintro e13 w13 ⟨s13, rfl, _, hf13⟩
    have HY13 := Lib.hid (HY12.out.fr0 hf13)
    have HF13 := Lib.hid (HF12.out.trans (hf13.mono fun _ _ f => f.elim))
    clear hf13
    go_wp2_with fail
    refine (tx_late_nil _ w13).mono ?_
    rintro e14 w14 ⟨rfl, hf14⟩
    have HY14 := Lib.hid (HY13.out.fr0 hf14)
    have HF14 := Lib.hid (HF13.out.trans (hf14.mono fun _ _ f => f.elim))
    clear hf14
    go_wp2_with fail
    refine (tx_late_new HY14.out).mono ?_
    rintro e15 w15 ⟨rfl, hf15⟩
    have HF15 := Lib.hid (HF14.out.trans (hf15.mono fun _ _ f => f.elim))
    clear hf15
    go_wp2_with fail
    go_ret
    exact ⟨rfl, HF15.out⟩
end Go.Proofs.Ytkcppngopdiljaa
