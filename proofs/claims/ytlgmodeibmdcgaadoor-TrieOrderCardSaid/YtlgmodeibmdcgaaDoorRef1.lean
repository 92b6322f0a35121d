/- Reference 1 (value): Join, Bytes; bytes.Clone. (Chapter 9's copy of XChain's clone_ok and of XRef1.) -/
import Derived.Test.YtlgmodeibmdcgaaDoorProg
import Derived.Test.YtlgmodeibmdcgaaDoorSha3
import Derived.Deep.QuietTactic
import Derived.BigQuiet
import Derived.Deep.RegionHeld3
set_option linter.unusedVariables false
set_option linter.unusedSimpArgs false
namespace Go.Proofs.YtlgmodeibmdcgaaDoor
open Go.RowKit

theorem info_u8 : (Tryd.prog.info? 5).map (fun i => (i.zero, i.size, i.bytes)) = some (some (.int .u8 0), 1, 1) := by kernel_rfl
/-- bytes.Clone. -/
theorem clone_ok {w : World} {F : Nat → Prop} {A : Option Addr} {n c : Nat} {xs : Bs} (h : Rd Ty.u8 w F A xs) (hn : n = xs.length) (hl : xs.length ≤ 140737488355328) :
    Calls Tryd.prog 42 #[.slice A n c] w fun e w' => ∃ A1 c1, e = .returned (.slice A1 xs.length c1) ∧ Ow Ty.u8 5 w' (fun k => w.heap.size ≤ k) (.slice A1 xs.length c1) xs ∧ Fr No w w' := by
  subst hn
  have q22 : ∀ (w : World) (a : Option Addr) (n c n' c' : Nat), (binOp .eql 30 (.slice a n c) (.slice none n' c')).run Tryd.prog w = .ok (.bool a.isNone) w := fun w a n c n' c' => Lib.run_eql_slice_nil w _ _ a n c n' c' Tryd.underlying30
  obtain ⟨cs, hR, hA⟩ := (h.fr0 (Fr.below ((Below.refl w.heap.size w).alloc (Nat.le_refl _) (.cells #[] 5)))).at
  cases hA0 : A with
  | none =>
    obtain rfl : xs = [] := by
      cases xs with
      | nil => rfl
      | cons x xs =>
        obtain ⟨c', d, rfl, hc, _⟩ := hR
        obtain rfl : c' = _ := hc
        obtain ⟨ad, e, _⟩ := hA 0 _ rfl
        rw [hA0] at e; cases e
    go_enter Tryd.func42, Tryd.ntmps42
    go_wp2
    go_ret
    exact ⟨none, 0, rfl, Ow.nil, Fr.refl _ _⟩
  | some ad =>
    subst hA0
    have hown : Ow Ty.u8 5 (w.alloc (.cells #[] 5)) (fun k => w.heap.size ≤ k) (.slice (some ⟨w.heap.size, 0, none⟩) 0 0) ([] : Bs) :=
      ⟨[], World.ownsRow_made w #[] 0 (Nat.zero_le _) (Nat.zero_le _) rfl, rfl, fun k hk => by simp [Value.ownBlock] at hk; omega⟩
    have hR' : Row Ty.u8 (w.alloc (.cells #[] 5)) (fun i => w.heap.size ≤ i ∧ (Value.slice (some ⟨w.heap.size, 0, none⟩) 0 0).ownBlock ≠ some i) xs cs := hR.imp fun _ _ h => h
    have H := Lib.hid (And.intro hown (And.intro hR' hA))
    clear hown hR' hA hR h
    go_enter Tryd.func42, Tryd.ntmps42
    go_wp2_with (at_builtin; refine ow_append Ty.u8 H.out.1 _ _ (.int .u8 0) 1 rfl rfl Tryd.underlying30 info_u8 rfl (by decide) (by decide) rfl rfl rfl H.out.2.1 H.out.2.2 (by simp; omega) ?_; intro A1 c1 w1 hown1 hg hat)
    go_ret
    simp only [List.length_nil, Nat.zero_add, List.nil_append] at hown1 ⊢
    refine ⟨A1, c1, rfl, hown1.mono fun k hk _ => by simp at hk; omega, ?_⟩
    exact ((Fr.refl No w).alloc _).grown hg fun k hk => .inr (by simp [Value.ownBlock] at hk; omega)
theorem blk_two1 (w : World) (o o' : Obj) : ((w.alloc o).alloc o').heap[w.heap.size]? = some o := by
  rw [Below.heap_alloc _ _ _ (by simp)]; exact heap_alloc_new w o
theorem blk_two2 (w : World) (o o' : Obj) : ((w.alloc o).alloc o').heap[w.heap.size + 1]? = some o' := by
  have := heap_alloc_new (w.alloc o) o'; rwa [World.size_alloc] at this
theorem Rd.set2 {α : Type} {t : Ty α} {w : World} {F : Nat → Prop} {A : Option Addr} {xs : List α} (h : Rd t w F A xs) (p : Addr) (hp : ¬ F p.block) (u : Value) : Rd t (w.setCell p u) F A xs :=
  h.stab fun k hk _ => Below.heap_setCell _ _ _ _ (by rintro rfl; exact hp hk)
theorem u8_at {w : World} {F : Nat → Prop} {A : Option Addr} {xs : Bs} (h : Rd Ty.u8 w F A xs) {i : Nat} (hi : i < xs.length) : ∃ ad, A = some ad ∧ w.cell? (ad.add i) = some (.int .u8 xs[i].toNat) := by
  obtain ⟨ad, c, e, hk, e0, _⟩ := h.get' hi (by decide)
  obtain rfl : c = _ := hk
  have := e0 _ rfl
  rw [show Ty.u8.sz = 1 from rfl, Nat.mul_one] at this
  exact ⟨ad, e, this⟩

theorem ref_join {w : World} {F : Nat → Prop} {A B : Option Addr} {c d : Nat} {xs ys : Bs} (h : Rd Ty.u8 w F A xs) (k : Rd Ty.u8 w F B ys) (hl : xs.length + ys.length ≤ 140737488355328) :
    Calls Tryd.prog 24 #[.slice A xs.length c, .slice B ys.length d] w fun e w' => ∃ A1 c1, e = .returned (.slice A1 (xs ++ ys).length c1) ∧ Ow Ty.u8 5 w' (fun k => w.heap.size ≤ k) (.slice A1 (xs ++ ys).length c1) (xs ++ ys) ∧ Fr No w w' := by
  rw [List.length_append]
  obtain ⟨cs, hR, hA⟩ := h.at
  have hR' : Row Ty.u8 w (fun i => w.heap.size ≤ i ∧ (Value.slice none 0 0).ownBlock ≠ some i) xs cs := hR.imp fun _ _ h => h
  have H := Lib.hid (And.intro hR' (And.intro hA k))
  clear hR hR' hA h k
  go_enter Tryd.func24, Tryd.ntmps24
  go_wp2_with (first
    | (at_builtin; refine ow_append Ty.u8 (Ow.nil (F := fun i => w.heap.size ≤ i)) _ _ (.int .u8 0) 1 rfl rfl Tryd.underlying30 info_u8 rfl (by decide) (by decide) rfl rfl rfl H.out.1 H.out.2.1 (by simp; omega) ?_; intro A1 c1 w1 hown1 hg hat
       simp only [List.length_nil, Nat.zero_add, List.nil_append] at hown1 ⊢
       have hf1 : Fr No w w1 := (Fr.refl No w).grown hg fun k hk => by simp [Value.ownBlock] at hk
       obtain ⟨ds, hS, hB⟩ := (H.out.2.2.fr0 hf1).at
       have H1 := Lib.hid (And.intro hown1 (And.intro hf1 (And.intro hS hB)))
       clear hown1 hg hat hf1 hS hB)
    | (at_builtin; refine ow_append Ty.u8 H1.out.1 _ _ (.int .u8 0) 1 rfl rfl Tryd.underlying30 info_u8 rfl (by decide) (by decide) rfl rfl rfl (H1.out.2.2.1.imp fun _ _ h => h) H1.out.2.2.2 (by omega) ?_; intro A2 c2 w2 hown2 hg2 hat2
       have H2 := Lib.hid (And.intro hown2 hg2)
       clear hown2 hg2 hat2))
  go_ret
  refine ⟨A2, c2, rfl, ?_, ?_⟩
  · exact H2.out.1.mono fun k hk _ => by
      have := H1.out.2.1.size
      rcases hk with (hk | hk) | hk <;> omega
  · refine H1.out.2.1.grown H2.out.2 fun k hk => ?_
    have := H1.out.1.own hk
    exact .inr (by rcases this.1 with h | h <;> omega)

theorem drewN_drewN (w : World) (m n : Nat) : (w.drewN m).drewN n = w.drewN (m + n) := by simp [World.drewN, Nat.add_assoc]
theorem ref_bytes_q {w : World} {F G : Nat → Prop} {A B : Option Addr} {c d : Nat} {xs ys : Bs} (h : Rd Ty.u8 w F A xs) (k : Rd Ty.u8 w G B ys) :
    Calls Tryd.prog 20 #[.slice A xs.length c, .slice B ys.length d] w fun e w' => e = .returned (.bool (decide (xs = ys))) ∧ ∃ m, w' = w.drewN m := by
  have hx := h.1
  have hy := k.1
  by_cases hl : xs.length = ys.length
  · have H := Lib.hid (And.intro h k)
    clear h k
    go_enter Tryd.func20, Tryd.ntmps20
    go_wp2
    go_loopw [5] (fun i wr => ∃ k : Nat, k ≤ xs.length ∧ i = .int .i64 k ∧ Hid (xs.take k = ys.take k) ∧ Hid (∃ m, wr = w.drewN m)) (fun i _ => xs.length - (intOf i).toNat)
    case atStart => exact ⟨0, Nat.zero_le _, rfl, by show _ = _; simp, 0, (World.drewN_zero w).symm⟩
    case round =>
      obtain ⟨k, hk, rfl, ht, hm⟩ := hrel
      have hf : Hid (Fr No w wr) := by obtain ⟨m, e⟩ := hm.out; show Fr No w wr; rw [e]; exact (Fr.refl No w).drewN m
      by_cases hlt : k < xs.length
      · obtain ⟨a1, rfl, x0⟩ := u8_at (H.out.1.fr0 hf.out) hlt
        obtain ⟨a2, rfl, y0⟩ := u8_at (H.out.2.fr0 hf.out) (i := k) (by omega)
        have hk0 : (0 : Int) ≤ (k : Int) := Int.natCast_nonneg _
        have hk1 : (k : Int) < (xs.length : Int) := by omega
        have hk2 : (k : Int) < (ys.length : Int) := by omega
        have hk3 : k < ys.length := by omega
        have hnext : xs.take (k + 1) = ys.take (k + 1) ↔ xs[k] = ys[k] := by
          rw [List.take_succ_eq_append_getElem (l := xs) hlt, List.take_succ_eq_append_getElem (l := ys) hk3, ht.out]
          constructor
          · intro e
            have := List.append_cancel_left e
            injection this
          · intro e
            rw [e]
        have hno : xs[k] ≠ ys[k] → xs ≠ ys := fun h e => by subst e; exact h rfl
        have HN := Lib.hid (And.intro hnext hno)
        clear hnext hno ht
        by_cases he : xs[k] = ys[k]
        · rw [← he] at y0
          have HE := Lib.hid he
          clear he
          generalize xs[k].toNat = u at *
          go_wp2
          go_quiet (fail)
          go_wp2
          go_roundw
          case rel => exact ⟨k + 1, by omega, by go_num, HN.out.1.2 HE.out, by obtain ⟨m, e⟩ := hm.out; exact ⟨_, by rw [e]; exact drewN_drewN w m _⟩⟩
          case measure => simp [intOf]; omega
        · have hne : (xs[k].toNat : Int) ≠ (ys[k].toNat : Int) := fun e => he (UInt8.toNat_inj.1 (by omega))
          have HE := Lib.hid (HN.out.2 he)
          clear he
          generalize xs[k].toNat = u at *
          generalize ys[k].toNat = v at *
          go_wp2
          go_quiet (fail)
          go_wp2
          go_ret
          exact ⟨by rw [decide_eq_false HE.out]; rfl, by obtain ⟨m, e⟩ := hm.out; exact ⟨_, by rw [e]; exact drewN_drewN w m _⟩⟩
      · obtain rfl : k = xs.length := by omega
        have : xs = ys := by have := ht.out; rw [List.take_length, hl, List.take_length] at this; exact this
        subst this
        go_wp2
        go_ret
        exact ⟨by simp, hm.out⟩
  · have hne : xs ≠ ys := fun e => hl (by rw [e])
    rw [decide_eq_false hne]
    have hl' : (xs.length : Int) ≠ (ys.length : Int) := fun e => hl (by omega)
    clear h k hne hl
    go_enter Tryd.func20, Tryd.ntmps20
    go_wp2
    go_ret
    exact ⟨rfl, 0, (World.drewN_zero w).symm⟩
theorem ref_bytes {w : World} {F G : Nat → Prop} {A B : Option Addr} {c d : Nat} {xs ys : Bs} (h : Rd Ty.u8 w F A xs) (k : Rd Ty.u8 w G B ys) :
    Calls Tryd.prog 20 #[.slice A xs.length c, .slice B ys.length d] w fun e w' => e = .returned (.bool (decide (xs = ys))) ∧ Fr No w w' := by
  refine (ref_bytes_q h k).mono ?_
  rintro e w' ⟨rfl, m, rfl⟩
  exact ⟨rfl, (Fr.refl No w).drewN m⟩
end Go.Proofs.YtlgmodeibmdcgaaDoor
