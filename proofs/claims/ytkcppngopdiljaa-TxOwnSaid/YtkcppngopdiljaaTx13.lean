/- Layer 14 (tx): of no transaction, of no store. -/
import Derived.Test.YtkcppngopdiljaaTx6
import Derived.Test.YtkcppngopdiljaaTx11
import Derived.Test.YtkcppngopdiljaaTx12
set_option linter.unusedVariables false
set_option linter.unusedSimpArgs false
namespace Go.Proofs.Ytkcppngopdiljaa
open Go.RowKit

theorem tx_put_nil (key : ByteArray) (A : Option Addr) (n c : Nat) {F : Nat → Prop} {row : Bs} {w : World} (hr : Rd Ty.u8 w F A row) (hl : n = row.length) (hl2 : row.length ≤ 140737488355328) :
    Calls Try.prog 12 #[.pointer none, .string key, .slice A n c] w fun e w' => e = .returned (.int .i64 5) ∧ Fr No w w' := by
  have HC := Lib.hid (clone_ok (c := c) hr hl hl2)
  clear hr hl hl2
  go_enter Try.func12, Try.ntmps12
  go_wp2_with fail
  refine HC.out.mono ?_
  rintro e1 w1 ⟨A1, c1, rfl, ho, hf1⟩
  have HF := Lib.hid hf1
  clear ho hf1
  go_wp2_with fail
  refine (tx_write_nil _ key A1 row.length c1 false w1 rfl).mono ?_
  rintro e2 w2 ⟨rfl, hf2⟩
  have HF2 := Lib.hid (HF.out.trans (hf2.mono fun _ _ f => f.elim))
  clear hf2
  go_wp2_with fail
  go_ret
  exact ⟨rfl, HF2.out⟩
theorem tx_del_nil (key : ByteArray) (w : World) : Calls Try.prog 13 #[.pointer none, .string key] w fun e w' => e = .returned (.int .i64 5) ∧ Fr No w w' := by
  go_enter Try.func13, Try.ntmps13
  go_wp2_with fail
  refine (tx_write_nil _ key none 0 0 true w rfl).mono ?_
  rintro e2 w2 ⟨rfl, hf2⟩
  have HF2 := Lib.hid hf2
  clear hf2
  go_wp2_with fail
  go_ret
  exact ⟨rfl, HF2.out⟩

/-- Late, where nothing was written: it asks no store. -/
theorem late_of_none {xp sp : Option Addr} {w : World} (hw : ∀ w', Fr No w w' → Calls Try.prog 14 #[.pointer xp] w' fun e w'' => ∃ A c, e = .returned (.slice A 0 c) ∧ Fr No w' w'') :
    Calls Try.prog 23 #[.pointer xp, .pointer sp] w fun e w' => e = .returned (.bool false) ∧ Fr No w w' := by
  obtain ⟨W, hW⟩ : ∃ W, W = (w.alloc (.cells #[.pointer xp] 23)).alloc (.cells #[.pointer sp] 46) := ⟨_, rfl⟩
  have hfW : Fr No w W := by rw [hW]; exact ((Fr.refl No w).alloc _).alloc _
  have c2 : W.cell? ⟨w.heap.size, 0, none⟩ = some (.pointer xp) := by rw [hW]; exact cell_two1 _ _ _ _
  have HW := Lib.hid (And.intro (hw W hfW) hfW)
  clear hw hfW
  go_enter Try.func23, Try.ntmps23
  go_wp2_with fail
  rw [← hW]
  clear hW
  refine HW.out.1.mono ?_
  rintro e1 w1 ⟨A1, c1, rfl, hf1⟩
  have hcon := contains_ok 41 #[.pointer (some ⟨w.heap.size + 1, 0, none⟩), .pointer (some ⟨w.heap.size, 0, none⟩)] (fun x => false) (w := w1) (F := No) (A := A1) (ws := []) (c := c1) Rd.nil (by simp) Try.call41 (fun i hi => by simp at hi)
  have HC := Lib.hid (And.intro hcon (HW.out.2.trans (hf1.mono fun _ _ f => f.elim)))
  clear hcon hf1
  go_wp2_with fail
  refine HC.out.1.mono ?_
  rintro e2 w2 ⟨rfl, hf2⟩
  have HF := Lib.hid (HC.out.2.trans (hf2.mono fun _ _ f => f.elim))
  clear hf2
  go_wp2_with fail
  go_ret
  exact ⟨rfl, HF.out⟩
theorem tx_late_nil (sp : Option Addr) (w : World) : Calls Try.prog 23 #[.pointer none, .pointer sp] w fun e w' => e = .returned (.bool false) ∧ Fr No w w' :=
  late_of_none fun w' _ => (tx_writes_nil w').mono fun e w'' ⟨h1, h2⟩ => ⟨none, 0, h1, by subst h2; exact Fr.refl _ _⟩
theorem tx_late_new {w : World} {F : Nat → Prop} {xb : Nat} {base : Int} {sp : Option Addr} (h : TxAt w F xb base []) : Calls Try.prog 23 #[.pointer (some ⟨xb, 0, none⟩), .pointer sp] w fun e w' => e = .returned (.bool false) ∧ Fr No w w' :=
  late_of_none fun w' f => (tx_writes (h.fr0 f) (by simp) (fun x hx => by cases hx)).mono fun e w'' ⟨A, c, h1, _, h2⟩ => ⟨A, c, h1, h2⟩
theorem xscan_none (base : Int) (lo hi : ByteArray) (most : Int) : xscan [] Sto.empty base lo hi most = [] := by
  unfold xscan xall rise
  simp [Sto.empty]
end Go.Proofs.Ytkcppngopdiljaa
