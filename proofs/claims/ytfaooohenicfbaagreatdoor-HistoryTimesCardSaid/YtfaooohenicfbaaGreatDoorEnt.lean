/- Entries: how they lie in memory; Order of such that are all done. -/
import Derived.Test.YtfaooohenicfbaaGreatDoorProg
import Derived.Test.YtfaooohenicfbaaGreatDoorLib
set_option linter.unusedVariables false
set_option linter.unusedSimpArgs false
namespace Go.Proofs.YtfaooohenicfbaaGreatDoor
open Go.RowKit

/-- An entry: its client, its call's kind, its moments, its turn; all else is nothing. -/
structure En where
  cl : Int
  kd : Int
  bg : Int
  pt : Int
  en : Int
  tn : Int
def En.cells (x : En) : List Value := [.int .i64 x.cl, .int .u8 x.kd, .int .i64 0, .slice none 0 0, .string ⟨#[]⟩, .int .i64 0, .int .i64 0, .bool false, .slice none 0 0, .slice none 0 0, .slice none 0 0, .int .i64 x.bg, .int .i64 x.pt, .int .i64 x.en, .int .i64 x.tn]
abbrev En.val (x : En) : Value := .agg #[.int .i64 x.cl, .int .u8 x.kd, .int .i64 0, .slice none 0 0, .string ⟨#[]⟩, .int .i64 0, .int .i64 0, .bool false, .slice none 0 0, .slice none 0 0, .slice none 0 0, .int .i64 x.bg, .int .i64 x.pt, .int .i64 x.en, .int .i64 x.tn]
def tEn : Ty En where
  sz := 15
  K := fun _ _ x cs => cs = x.cells
  len := by rintro _ _ _ _ rfl; rfl
  one := by
    rintro _ _ x _ rfl u hu
    simp only [En.cells, List.mem_cons, List.not_mem_nil, or_false] at hu
    rcases hu with rfl | rfl | rfl | rfl | rfl | rfl | rfl | rfl | rfl | rfl | rfl | rfl | rfl | rfl | rfl <;> rfl
  stab := fun h _ => h
  mono := fun h _ => h
/-- An entry's cells from a place on. -/
structure EnAt (w : World) (a : Addr) (x : En) : Prop where
  c0 : w.cell? a = some (.int .i64 x.cl)
  c1 : w.cell? ⟨a.block, a.off + 1, none⟩ = some (.int .u8 x.kd)
  c2 : w.cell? ⟨a.block, a.off + 2, none⟩ = some (.int .i64 0)
  c3 : w.cell? ⟨a.block, a.off + 3, none⟩ = some (.slice none 0 0)
  c4 : w.cell? ⟨a.block, a.off + 4, none⟩ = some (.string ⟨#[]⟩)
  c5 : w.cell? ⟨a.block, a.off + 5, none⟩ = some (.int .i64 0)
  c6 : w.cell? ⟨a.block, a.off + 6, none⟩ = some (.int .i64 0)
  c7 : w.cell? ⟨a.block, a.off + 7, none⟩ = some (.bool false)
  c8 : w.cell? ⟨a.block, a.off + 8, none⟩ = some (.slice none 0 0)
  c9 : w.cell? ⟨a.block, a.off + 9, none⟩ = some (.slice none 0 0)
  c10 : w.cell? ⟨a.block, a.off + 10, none⟩ = some (.slice none 0 0)
  c11 : w.cell? ⟨a.block, a.off + 11, none⟩ = some (.int .i64 x.bg)
  c12 : w.cell? ⟨a.block, a.off + 12, none⟩ = some (.int .i64 x.pt)
  c13 : w.cell? ⟨a.block, a.off + 13, none⟩ = some (.int .i64 x.en)
  c14 : w.cell? ⟨a.block, a.off + 14, none⟩ = some (.int .i64 x.tn)
theorem en_at {w : World} {F : Nat → Prop} {A : Option Addr} {l : List En} (h : Rd tEn w F A l) {i : Nat} (hi : i < l.length) : ∃ ad, A = some ad ∧ EnAt w (ad.add (i * 15)) l[i] := by
  obtain ⟨ad, cs, e, hk, h0, h1⟩ := h.get' hi (by decide)
  obtain rfl : cs = _ := hk
  exact ⟨ad, e, h0 _ rfl, h1 1 _ (by decide) rfl, h1 2 _ (by decide) rfl, h1 3 _ (by decide) rfl, h1 4 _ (by decide) rfl, h1 5 _ (by decide) rfl, h1 6 _ (by decide) rfl, h1 7 _ (by decide) rfl, h1 8 _ (by decide) rfl, h1 9 _ (by decide) rfl, h1 10 _ (by decide) rfl, h1 11 _ (by decide) rfl, h1 12 _ (by decide) rfl, h1 13 _ (by decide) rfl, h1 14 _ (by decide) rfl⟩

theorem EnAt.fr {S : Nat → Prop} {w w' : World} {a : Addr} {x : En} (h : EnAt w a x) (f : Fr S w w') (hn : ¬ S a.block) : EnAt w' a x :=
  ⟨f.cell h.c0 hn, f.cell h.c1 hn, f.cell h.c2 hn, f.cell h.c3 hn, f.cell h.c4 hn, f.cell h.c5 hn, f.cell h.c6 hn, f.cell h.c7 hn, f.cell h.c8 hn, f.cell h.c9 hn, f.cell h.c10 hn, f.cell h.c11 hn, f.cell h.c12 hn, f.cell h.c13 hn, f.cell h.c14 hn⟩
theorem rd_block {α : Type} {t : Ty α} {w : World} {F : Nat → Prop} {A : Option Addr} {xs : List α} (h : Rd t w F A xs) (h0 : 0 < xs.length) (hz : 0 < t.sz) {ad : Addr} (e : A = some ad) : F ad.block := by
  obtain ⟨ad', c, e', hf, _⟩ := h.get h0 hz
  rw [e] at e'
  obtain rfl := Option.some.inj e'
  exact hf
set_option maxHeartbeats 1000000 in
set_option maxRecDepth 100000 in
theorem order1_fn {w : World} (x : En) : Calls Tryz.prog 20 #[x.val] w fun e w' => e = .returned (.bool (decide (x.pt ≤ 0))) ∧ Fr No w w' := by
  have hw := Lib.hid (Fr.refl No w)
  obtain ⟨cl, kd, bg, pt, en, tn⟩ := x
  by_cases hp : pt ≤ 0
  · go_enter Tryz.func20, Tryz.ntmps20
    go_wp2_with fail
    go_ret
    exact ⟨by simp [hp], hw.out.alloc _⟩
  · go_enter Tryz.func20, Tryz.ntmps20
    go_wp2_with fail
    go_ret
    exact ⟨by simp [hp], hw.out.alloc _⟩

set_option maxHeartbeats 2000000 in
set_option maxRecDepth 100000 in
theorem index_en {w : World} {F : Nat → Prop} {A : Option Addr} {c : Nat} {l : List En} (h : Rd tEn w F A l) (hp : ∀ x ∈ l, 0 < x.pt) : Calls Tryz.prog 36 #[.slice A l.length c, .func (.func 20) #[] #[]] w fun e w' => e = .returned (.int .i64 (-1)) ∧ Fr No w w' := by
  have H := Lib.hid (And.intro h hp)
  have HC := Lib.hid fun (w : World) (x : En) => order1_fn (w := w) x
  have hl63 := h.1
  have hl63i : (l.length : Int) ≤ 9223372036854775807 := by omega
  clear h hp hl63
  go_enter Tryz.func36, Tryz.ntmps36
  go_wp2_with fail
  go_loopw [8] (fun iv wr => ∃ k : Nat, k ≤ l.length ∧ iv = .int .i64 (k : Int) ∧ Hid (Fr No w wr)) (fun iv _ => l.length - (intOf iv).toNat)
  case atStart => exact ⟨0, Nat.zero_le _, rfl, Fr.refl No w⟩
  case round =>
    obtain ⟨k, hk, rfl, I⟩ := hrel
    have hk0 : (0 : Int) ≤ (k : Int) := Int.natCast_nonneg _
    by_cases hlt : k < l.length
    · have hk1 : (k : Int) < (l.length : Int) := by omega
      obtain ⟨ad, rfl, ea⟩ := en_at (H.out.1.fr0 I.out) hlt
      have hpos := H.out.2 l[k] (List.getElem_mem hlt)
      obtain ⟨x, hx⟩ : ∃ x, l[k] = x := ⟨_, rfl⟩
      rw [hx] at ea hpos
      obtain ⟨c0, c1, c2, c3, c4, c5, c6, c7, c8, c9, c10, c11, c12, c13, c14⟩ := ea
      have HX := Lib.hid hpos
      clear hx hpos
      go_wp2_with fail
      refine (HC.out _ x).mono ?_
      rintro e w3 ⟨rfl, hf3⟩
      rw [show decide (x.pt ≤ 0) = false from decide_eq_false (by have := HX.out; omega)]
      have HZ := Lib.hid (I.out.trans (hf3.mono fun _ _ f => f.elim))
      clear hf3
      go_wp2_with fail
      go_roundw
      case rel => exact ⟨k + 1, by omega, by go_num, HZ.out⟩
      case measure => simp [intOf]; omega
    · obtain rfl : k = l.length := by omega
      go_wp2_with fail
      go_ret
      exact ⟨rfl, I.out⟩
set_option maxHeartbeats 1000000 in
set_option maxRecDepth 100000 in
theorem delete_en0 {w : World} {F : Nat → Prop} {A : Option Addr} {c : Nat} {l : List En} (h : Rd tEn w F A l) (hp : ∀ x ∈ l, 0 < x.pt) : Calls Tryz.prog 18 #[.slice A l.length c, .func (.func 20) #[] #[]] w fun e w' => e = .returned (.slice A l.length c) ∧ Fr No w w' := by
  have H := Lib.hid (index_en (c := c) h hp)
  clear h hp
  go_enter Tryz.func18, Tryz.ntmps18
  go_wp2_with fail
  refine H.out.mono ?_
  rintro e w3 ⟨rfl, hf3⟩
  have HF := Lib.hid hf3
  clear hf3
  go_wp2_with fail
  go_ret
  exact ⟨rfl, HF.out⟩
set_option maxHeartbeats 1000000 in
set_option maxRecDepth 100000 in
theorem insertion_small {w : World} {A : Option Addr} {n c : Nat} (f : Value) (hn : n ≤ 1) : Calls Tryz.prog 56 #[.slice A n c, .int .i64 0, .int .i64 (n : Int), f] w fun e w' => e = .returned (.tuple #[]) ∧ w' = w := by
  have hni : ¬ (1 : Int) < (n : Int) := by omega
  go_enter Tryz.func56, Tryz.ntmps56
  go_wp2_with fail
  refine wp_loop_rounds 1 ?_
  rw [rounds_succ]
  go_wp2_with fail
  go_end0
  exact ⟨rfl, rfl⟩
set_option maxHeartbeats 1000000 in
set_option maxRecDepth 100000 in
theorem stable_small {w : World} {A : Option Addr} {n c : Nat} (f : Value) (hn : n ≤ 1) : Calls Tryz.prog 37 #[.slice A n c, .int .i64 (n : Int), f] w fun e w' => e = .returned (.tuple #[]) ∧ w' = w := by
  have hni : ¬ (20 : Int) ≤ (n : Int) := by omega
  have hni2 : ¬ (20 : Int) < (n : Int) := by omega
  have H := Lib.hid fun (w : World) => insertion_small (w := w) (A := A) (c := c) f hn
  go_enter Tryz.func37, Tryz.ntmps37
  go_wp2_with fail
  refine wp_loop_rounds 1 ?_
  rw [rounds_succ]
  go_wp2_with fail
  refine (H.out _).mono ?_
  rintro e w1 ⟨rfl, rfl⟩
  go_wp2_with fail
  refine wp_loop_rounds 1 ?_
  rw [rounds_succ]
  go_wp2_with fail
  go_end0
  exact ⟨rfl, rfl⟩
set_option maxHeartbeats 1000000 in
set_option maxRecDepth 100000 in
theorem sort_small {w : World} {A : Option Addr} {n c : Nat} (f : Value) (hn : n ≤ 1) : Calls Tryz.prog 21 #[.slice A n c, f] w fun e w' => e = .returned (.tuple #[]) ∧ w' = w := by
  have H := Lib.hid fun (w : World) => stable_small (w := w) (A := A) (c := c) f hn
  go_enter Tryz.func21, Tryz.ntmps21
  go_wp2_with fail
  refine (H.out _).mono ?_
  rintro e w1 ⟨rfl, rfl⟩
  go_wp2_with fail
  go_end0
  exact ⟨rfl, rfl⟩

abbrev zeroEn : Value := (⟨0, 0, 0, 0, 0, 0⟩ : En).val
theorem info_en : (Tryz.prog.info? 41).map (fun i => (i.zero, i.size, i.bytes)) = some (some zeroEn, 15, 192) := by kernel_rfl
set_option maxHeartbeats 1000000 in
set_option maxRecDepth 100000 in
theorem clone_en {w : World} {F : Nat → Prop} {A : Option Addr} {c : Nat} {xs : List En} (h : Rd tEn w F A xs) (hl : xs.length ≤ 1000000) :
    Calls Tryz.prog 19 #[.slice A xs.length c] w fun e w' => ∃ A1 c1, e = .returned (.slice A1 xs.length c1) ∧ Ow tEn 41 w' (fun k => w.heap.size ≤ k) (.slice A1 xs.length c1) xs ∧ Fr No w w' := by
  have q22 : ∀ (w : World) (a : Option Addr) (n c n' c' : Nat), (binOp .eql 38 (.slice a n c) (.slice none n' c')).run Tryz.prog w = .ok (.bool a.isNone) w := fun w a n c n' c' => Lib.run_eql_slice_nil w _ _ a n c n' c' Tryz.underlying38
  obtain ⟨cs, hR, hA⟩ := (h.fr0 (Fr.below ((Below.refl w.heap.size w).alloc (Nat.le_refl _) (.cells #[] 41)))).at
  cases hA0 : A with
  | none =>
    obtain rfl : xs = [] := by
      cases xs with
      | nil => rfl
      | cons x xs =>
        obtain ⟨c', d, rfl, hc, _⟩ := hR
        obtain rfl : c' = _ := hc
        obtain ⟨ad, e, _⟩ := hA 0 _ rfl
        rw [hA0] at e; cases e
    go_enter Tryz.func19, Tryz.ntmps19
    go_wp2
    go_ret
    exact ⟨none, 0, rfl, Ow.nil, Fr.refl _ _⟩
  | some ad =>
    subst hA0
    have hown : Ow tEn 41 (w.alloc (.cells #[] 41)) (fun k => w.heap.size ≤ k) (.slice (some ⟨w.heap.size, 0, none⟩) 0 0) ([] : List En) :=
      ⟨[], World.ownsRow_made w #[] 0 (Nat.zero_le _) (Nat.zero_le _) rfl, rfl, fun k hk => by simp [Value.ownBlock] at hk; omega⟩
    have hR' : Row tEn (w.alloc (.cells #[] 41)) (fun i => w.heap.size ≤ i ∧ (Value.slice (some ⟨w.heap.size, 0, none⟩) 0 0).ownBlock ≠ some i) xs cs := hR.imp fun _ _ h => h
    have H := Lib.hid (And.intro hown (And.intro hR' hA))
    clear hown hR' hA hR h
    go_enter Tryz.func19, Tryz.ntmps19
    go_wp2_with (at_builtin; refine ow_append tEn H.out.1 _ _ zeroEn 192 rfl rfl Tryz.underlying38 info_en rfl (by decide) (by decide) rfl rfl rfl H.out.2.1 H.out.2.2 (by simp; omega) ?_; intro A1 c1 w1 hown1 hg hat)
    go_ret
    simp only [List.length_nil, Nat.zero_add, List.nil_append] at hown1 ⊢
    refine ⟨A1, c1, rfl, hown1.mono fun k hk _ => by simp at hk; omega, ?_⟩
    exact ((Fr.refl No w).alloc _).grown hg fun k hk => .inr (by simp [Value.ownBlock] at hk; omega)
set_option maxHeartbeats 1000000 in
set_option maxRecDepth 100000 in
/-- Order, of at most one, that is done. -/
theorem order_small {w : World} {F : Nat → Prop} {A : Option Addr} {c : Nat} {xs : List En} (h : Rd tEn w F A xs) (hl : xs.length ≤ 1) (hp : ∀ x ∈ xs, 0 < x.pt) :
    Calls Tryz.prog 7 #[.slice A xs.length c] w fun e w' => ∃ A1 c1, e = .returned (.slice A1 xs.length c1) ∧ xs.length ≤ c1 ∧ Rd tEn w' (fun k => w.heap.size ≤ k) A1 xs ∧ Fr No w w' := by
  have H := Lib.hid (And.intro (clone_en (c := c) h (by omega)) hp)
  have HS := Lib.hid fun (w : World) (A : Option Addr) (c : Nat) (f : Value) => sort_small (w := w) (A := A) (c := c) f hl
  clear h hp
  go_enter Tryz.func7, Tryz.ntmps7
  go_wp2_with fail
  refine H.out.1.mono ?_
  rintro e w1 ⟨A1, c1, rfl, ho1, hf1⟩
  have HO := Lib.hid (And.intro ho1 hf1)
  clear ho1 hf1
  go_wp2_with fail
  refine (delete_en0 (c := c1) HO.out.1.rd.2.2 H.out.2).mono ?_
  rintro e w2 ⟨rfl, hf2⟩
  have HF := Lib.hid hf2
  clear hf2
  go_wp2_with fail
  refine (HS.out _ _ _ _).mono ?_
  rintro e w3 ⟨rfl, rfl⟩
  go_wp2_with fail
  go_ret
  exact ⟨A1, c1, rfl, HO.out.1.rd.2.1, HO.out.1.rd.2.2.fr0 HF.out, HO.out.2.trans (HF.out.mono fun _ _ f => f.elim)⟩
end Go.Proofs.YtfaooohenicfbaaGreatDoor
