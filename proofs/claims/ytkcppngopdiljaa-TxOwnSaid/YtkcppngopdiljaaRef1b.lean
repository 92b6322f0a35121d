/- Reference 1 (value): Rise. -/
import Derived.Test.YtkcppngopdiljaaRef1
import Derived.Test.YtkcppngopdiljaaSpec01
import Derived.Test.YtkcppngopdiljaaStore3
import Derived.IntWalk
set_option linter.unusedVariables false
set_option linter.unusedSimpArgs false
namespace Go.Proofs.Ytkcppngopdiljaa
open Go.RowKit

theorem info_str : (Try.prog.info? 9).map (fun i => (i.zero, i.size, i.bytes)) = some (some (.string ⟨#[]⟩), 1, 16) := by kernel_rfl

/-- Does a text stand behind all of a list that rises? -/
def okAt (R : List ByteArray) (x : ByteArray) : Prop := ∀ y, R.getLast? = some y → kl y x = true
/-- What the inner loop has found in the first i texts. -/
def Best (R l : List ByteArray) (i : Nat) (b : Int) : Prop :=
  (b = -1 ∧ ∀ j (h : j < l.length), j < i → ¬ okAt R l[j]) ∨ ∃ n : Nat, b = n ∧ n < i ∧ ∃ h : n < l.length, okAt R l[n] ∧ ∀ j (h' : j < l.length), j < i → okAt R l[j] → kl l[j] l[n] = false
section
variable {R l : List ByteArray} {i : Nat} {b : Int}
theorem Best.zero : Best R l 0 (-1) := .inl ⟨rfl, fun j _ h => by omega⟩
theorem Best.skip (h : Best R l i b) (hi : i < l.length) (hn : ¬ okAt R l[i]) : Best R l (i + 1) b := by
  rcases h with ⟨rfl, h⟩ | ⟨n, rfl, h1, h2, h3, h4⟩
  · refine .inl ⟨rfl, fun j hj hji => ?_⟩
    rcases Nat.lt_or_ge j i with h' | h'
    · exact h j hj h'
    · obtain rfl : j = i := by omega
      exact hn
  · refine .inr ⟨n, rfl, by omega, h2, h3, fun j hj hji ho => ?_⟩
    rcases Nat.lt_or_ge j i with h' | h'
    · exact h4 j hj h' ho
    · obtain rfl : j = i := by omega
      exact absurd ho hn
theorem Best.first (h : Best R l i (-1)) (hi : i < l.length) (ho : okAt R l[i]) : Best R l (i + 1) i := by
  rcases h with ⟨_, h⟩ | ⟨n, e, _⟩
  · refine .inr ⟨i, rfl, by omega, hi, ho, fun j hj hji hoj => ?_⟩
    rcases Nat.lt_or_ge j i with h' | h'
    · exact absurd hoj (h j hj h')
    · obtain rfl : j = i := by omega
      exact kl_irrefl _
  · omega
theorem Best.less {n : Nat} (h : Best R l i n) (hi : i < l.length) (hn : n < l.length) (ho : okAt R l[i]) (hk : kl l[i] l[n] = true) : Best R l (i + 1) i := by
  rcases h with ⟨e, _⟩ | ⟨m, e, h1, h2, h3, h4⟩
  · omega
  · obtain rfl : n = m := by omega
    refine .inr ⟨i, rfl, by omega, hi, ho, fun j hj hji hoj => ?_⟩
    rcases Nat.lt_or_ge j i with h' | h'
    · have := h4 j hj h' hoj
      cases hq : kl l[j] l[i] with
      | false => rfl
      | true => have := kl_trans hq hk; rw [h4 j hj h' hoj] at this; cases this
    · obtain rfl : j = i := by omega
      exact kl_irrefl _
theorem Best.keep {n : Nat} (h : Best R l i n) (hi : i < l.length) (hn : n < l.length) (hk : kl l[i] l[n] = false) : Best R l (i + 1) n := by
  rcases h with ⟨e, _⟩ | ⟨m, e, h1, h2, h3, h4⟩
  · omega
  · obtain rfl : n = m := by omega
    refine .inr ⟨n, rfl, by omega, h2, h3, fun j hj hji hoj => ?_⟩
    rcases Nat.lt_or_ge j i with h' | h'
    · exact h4 j hj h' hoj
    · obtain rfl : j = i := by omega
      exact hk
end
theorem okAt_nil (x : ByteArray) : okAt [] x := fun y h => by cases h
theorem okAt_concat (R : List ByteArray) (y x : ByteArray) : okAt (R ++ [y]) x ↔ kl y x = true := by
  unfold okAt; rw [List.getLast?_concat]; simp

/-- What stands in the list that the outer loop makes. -/
structure RiseInv (l R : List ByteArray) : Prop where
  rising : Rising R
  sub : ∀ x ∈ R, x ∈ l
  all : ∀ x ∈ l, x ∈ R ∨ okAt R x
theorem RiseInv.nil (l : List ByteArray) : RiseInv l [] := ⟨List.Pairwise.nil, fun x h => (by cases h), fun x _ => .inr (okAt_nil x)⟩
theorem nil_or_snoc {α : Type} (R : List α) : R = [] ∨ ∃ R0 z, R = R0 ++ [z] := by
  rcases List.eq_nil_or_concat R with h | ⟨R0, z, h⟩
  · exact .inl h
  · exact .inr ⟨R0, z, by rw [h, List.concat_eq_append]⟩
theorem rising_last {R : List ByteArray} (h : Rising R) {x : ByteArray} (ho : okAt R x) : ∀ y ∈ R, kl y x = true := by
  intro y hy
  rcases nil_or_snoc R with rfl | ⟨R0, z, rfl⟩
  · cases hy
  · have hz := (okAt_concat R0 z x).1 ho
    rcases List.mem_append.1 hy with hy | hy
    · exact kl_trans ((List.pairwise_append.1 h).2.2 y hy z (by simp)) hz
    · obtain rfl : y = z := by simpa using hy
      exact hz
theorem RiseInv.step {l R : List ByteArray} (I : RiseInv l R) {n : Nat} (hn : n < l.length) (ho : okAt R l[n]) (hm : ∀ j (h' : j < l.length), okAt R l[j] → kl l[j] l[n] = false) : RiseInv l (R ++ [l[n]]) := by
  refine ⟨List.pairwise_append.2 ⟨I.rising, List.pairwise_singleton _ _, fun y hy z hz => ?_⟩, fun x hx => ?_, fun x hx => ?_⟩
  · obtain rfl : z = _ := by simpa using hz
    exact rising_last I.rising ho y hy
  · rcases List.mem_append.1 hx with hx | hx
    · exact I.sub x hx
    · obtain rfl : x = _ := by simpa using hx
      exact List.getElem_mem _
  · rcases I.all x hx with h | h
    · exact .inl (List.mem_append_left _ h)
    · rw [okAt_concat]
      obtain ⟨j, hj, rfl⟩ := List.getElem_of_mem hx
      have h1 := hm j hj h
      cases h2 : kl l[n] l[j] with
      | true => exact .inr rfl
      | false => left; rw [kl_tri h1 h2]; simp
theorem RiseInv.done {l R : List ByteArray} (I : RiseInv l R) (hm : ∀ j (h' : j < l.length), ¬ okAt R l[j]) : R = rise l := by
  refine I.rising.ext (rising_rise l) fun x => ?_
  rw [mem_rise]
  refine ⟨I.sub x, fun hx => ?_⟩
  rcases I.all x hx with h | h
  · exact h
  · obtain ⟨j, hj, rfl⟩ := List.getElem_of_mem hx
    exact absurd h (hm j hj)
theorem nodup_len {R l : List ByteArray} (h : R.Nodup) (hs : ∀ x ∈ R, x ∈ l) : R.length ≤ l.length := by
  induction R generalizing l with
  | nil => simp
  | cons x R ih =>
    obtain ⟨h1, h2⟩ := List.nodup_cons.1 h
    have hx := hs x (List.mem_cons_self ..)
    have h3 := ih (l := l.filter fun y => decide (y ≠ x)) h2 fun y hy => by
      have hne : y ≠ x := fun e => h1 (e ▸ hy)
      exact List.mem_filter.2 ⟨hs y (List.mem_cons_of_mem _ hy), by simpa using hne⟩
    have h4 : (l.filter fun y => decide (y ≠ x)).length < l.length := List.length_filter_lt_length_iff_exists.2 ⟨x, hx, by simp⟩
    simp only [List.length_cons]
    omega
def lenV : Value → Nat
  | .slice _ n _ => n
  | _ => 0

set_option maxHeartbeats 20000000 in
set_option maxRecDepth 100000 in
theorem ref_rise {w : World} {F : Nat → Prop} {A : Option Addr} {cp : Nat} {l : List ByteArray} (h : Rd Ty.str w F A l) (hl : l.length ≤ 1000000000) :
    Calls Try.prog 51 #[.slice A l.length cp] w fun e w' => ∃ A1 c1, e = .returned (.slice A1 (rise l).length c1) ∧ Ow Ty.str 9 w' (fun k => w.heap.size ≤ k) (.slice A1 (rise l).length c1) (rise l) ∧ Fr No w w' := by
  have H := Lib.hid h
  clear h
  have hlI : (l.length : Int) ≤ 1000000000 := by omega
  go_enter Try.func51, Try.ntmps51
  go_wp2
  go_loopw [3] (fun v wr => ∃ (R : List ByteArray) (A1 : Option Addr) (c1 n : Nat), v = .slice A1 n c1 ∧ Hid (n = R.length ∧ RiseInv l R) ∧ Hid (Ow Ty.str 9 wr (fun k => w.heap.size ≤ k) (.slice A1 n c1) R) ∧ Hid (Fr No w wr)) (fun v _ => l.length + 1 - lenV v)
  case atStart => exact ⟨[], none, 0, 0, rfl, ⟨rfl, RiseInv.nil l⟩, Ow.nil, Fr.refl _ _⟩
  case round =>
    obtain ⟨R, A1, c1, n, rfl, hI, hO, hf⟩ := hrel
    have hnl : n ≤ l.length := by rw [hI.out.1]; exact nodup_len hI.out.2.rising.nodup hI.out.2.sub
    have HO := Lib.hid (And.intro hO.out hf.out)
    clear hO hf
    go_wp2
    go_loopw [4, 5] (fun b i w2 => ∃ (bi : Int) (k : Nat), k ≤ l.length ∧ b = .int .i64 bi ∧ i = .int .i64 k ∧ Hid (Best R l k bi) ∧ Hid (Fr No wr w2)) (fun _ i _ => l.length - (intOf i).toNat)
    case atStart => exact ⟨-1, 0, Nat.zero_le _, rfl, rfl, Best.zero, Fr.refl _ _⟩
    case round =>
      obtain ⟨bi, k, hkl, rfl, rfl, HB0, hf2⟩ := hrel
      have hbi : bi = -1 ∨ ∃ m : Nat, bi = m ∧ m < k ∧ m < l.length := by
        rcases HB0.out with ⟨h, _⟩ | ⟨m, h, h1, h2, _⟩
        · exact .inl h
        · exact .inr ⟨m, h, h1, h2⟩
      have hk0 : (0 : Int) ≤ (k : Int) := Int.natCast_nonneg _
      by_cases hlt : k < l.length
      · have hk1 : (k : Int) < (l.length : Int) := by omega
        obtain ⟨ad, rfl, x0⟩ := str_at (H.out.fr0 (HO.out.2.trans (hf2.out.mono fun _ _ f => f.elim))) hlt
        obtain ⟨hnR, _⟩ := hI.out
        clear hI
        rcases nil_or_snoc R with rfl | ⟨R0, y, rfl⟩
        · obtain rfl : n = 0 := by simpa using hnR
          have HK := Lib.hid (okAt_nil l[k])
          clear hnR
          rcases hbi with rfl | ⟨m, rfl, hmk, hml⟩
          · have hB' := Best.first HB0.out hlt HK.out
            have HB := Lib.hid hB'
            clear hB'
            go_wp2
            go_quiet (fail)
            go_wp2
            go_roundw
            case rel => exact ⟨_, k + 1, by omega, rfl, by go_num, HB.out, hf2.out.drewN _⟩
            case measure => simp [intOf]; omega
          · obtain ⟨ad2, e2, x1⟩ := str_at (H.out.fr0 (HO.out.2.trans (hf2.out.mono fun _ _ f => f.elim))) hml
            obtain rfl := Option.some.inj e2
            have hm0 : (0 : Int) ≤ (m : Int) := Int.natCast_nonneg _
            have hm9 : decide ((m : Int) < 0) = false := decide_eq_false (by omega)
            have hm1 : (m : Int) < (l.length : Int) := by omega
            cases hk : Op.bytesLess l[k].toList l[m].toList
            · have hB' := Best.keep HB0.out hlt hml hk
              have HB := Lib.hid hB'
              clear hB'
              go_wp2
              go_quiet (fail)
              go_wp2
              go_roundw
              case rel => exact ⟨_, k + 1, by omega, rfl, by go_num, HB.out, hf2.out.drewN _⟩
              case measure => simp [intOf]; omega
            · have hB' := Best.less HB0.out hlt hml HK.out hk
              have HB := Lib.hid hB'
              clear hB'
              go_wp2
              go_quiet (fail)
              go_wp2
              go_roundw
              case rel => exact ⟨_, k + 1, by omega, rfl, by go_num, HB.out, hf2.out.drewN _⟩
              case measure => simp [intOf]; omega
        · obtain rfl : n = R0.length + 1 := by simpa using hnR
          obtain ⟨ad3, rfl, x3⟩ := str_at (HO.out.1.fr0 hf2.out).rd.2.2 (i := R0.length) (by simp)
          have hy : (R0 ++ [y])[R0.length]'(by simp) = y := by simp
          rw [hy] at x3
          have hn0 : (0 : Int) ≤ (R0.length : Int) := Int.natCast_nonneg _
          have hn1 : (R0.length : Int) ≤ 1000000000 := by omega
          have hn7 : (R0.length : Int) < (R0.length : Int) + 1 := by omega
          have hn6 : R0.length < R0.length + 1 := by omega
          have hn9 : ((R0.length : Int) + 1 == 0) = false := by simp; omega
          have hn8 : IntKind.i64.wrap (R0.length : Int) = (R0.length : Int) := IntWalk.i64_in _ (by omega)
          have hkl := (kl_not l[k] y).symm
          cases h5 : Op.bytesLess l[k].toList y.toList <;> cases h6 : (l[k].toList == y.toList)
          case false.false =>
            have HK := Lib.hid ((okAt_concat R0 y l[k]).2 (by rw [hkl, h5, h6]; rfl))
            clear hnR hy hkl
            rcases hbi with rfl | ⟨m, rfl, hmk, hml⟩
            · have hB' := Best.first HB0.out hlt HK.out
              have HB := Lib.hid hB'
              clear hB'
              go_wp2
              go_quiet (fail)
              go_wp2
              go_roundw
              case rel => exact ⟨_, k + 1, by omega, rfl, by go_num, HB.out, hf2.out.drewN _⟩
              case measure => simp [intOf]; omega
            · obtain ⟨ad2, e2, x1⟩ := str_at (H.out.fr0 (HO.out.2.trans (hf2.out.mono fun _ _ f => f.elim))) hml
              obtain rfl := Option.some.inj e2
              have hm0 : (0 : Int) ≤ (m : Int) := Int.natCast_nonneg _
              have hm9 : decide ((m : Int) < 0) = false := decide_eq_false (by omega)
              have hm1 : (m : Int) < (l.length : Int) := by omega
              cases hk : Op.bytesLess l[k].toList l[m].toList
              · have hB' := Best.keep HB0.out hlt hml hk
                have HB := Lib.hid hB'
                clear hB'
                go_wp2
                go_quiet (fail)
                go_wp2
                go_roundw
                case rel => exact ⟨_, k + 1, by omega, rfl, by go_num, HB.out, hf2.out.drewN _⟩
                case measure => simp [intOf]; omega
              · have hB' := Best.less HB0.out hlt hml HK.out hk
                have HB := Lib.hid hB'
                clear hB'
                go_wp2
                go_quiet (fail)
                go_wp2
                go_roundw
                case rel => exact ⟨_, k + 1, by omega, rfl, by go_num, HB.out, hf2.out.drewN _⟩
                case measure => simp [intOf]; omega
          all_goals
            have hB' := Best.skip HB0.out hlt (by rw [okAt_concat]; intro h; rw [hkl, h5, h6] at h; cases h)
            have HB := Lib.hid hB'
            clear hB' hnR hy hkl
            go_wp2
            go_quiet (fail)
            go_wp2
            go_roundw
            case rel => exact ⟨_, k + 1, by omega, rfl, by go_num, HB.out, hf2.out.drewN _⟩
            case measure => simp [intOf]; omega
      · obtain rfl : k = l.length := by omega
        rcases hbi with rfl | ⟨m, rfl, hmk, hml⟩
        · have hR : R = rise l := hI.out.2.done fun j hj => by
            rcases HB0.out with ⟨_, h⟩ | ⟨m, e, _⟩
            · exact h j hj hj
            · omega
          go_wp2
          go_ret
          refine ⟨A1, c1, ?_, ?_, HO.out.2.trans (hf2.out.mono fun _ _ f => f.elim)⟩
          · rw [← hR, ← hI.out.1]; rfl
          · rw [← hR, ← hI.out.1]; exact HO.out.1.fr0 hf2.out
        · obtain ⟨ad, rfl, x1⟩ := str_at (H.out.fr0 (HO.out.2.trans (hf2.out.mono fun _ _ f => f.elim))) hml
          have hm0 : (0 : Int) ≤ (m : Int) := Int.natCast_nonneg _
          have hm9 : decide ((m : Int) < 0) = false := decide_eq_false (by omega)
          have hm1 : (m : Int) < (l.length : Int) := by omega
          have hI2 : RiseInv l (R ++ [l[m]]) := by
            rcases HB0.out with ⟨e, _⟩ | ⟨m', e, _, h2, h3, h4⟩
            · omega
            · obtain rfl : m = m' := by omega
              exact hI.out.2.step h2 h3 fun j hj => h4 j hj hj
          have hnl2 : n + 1 ≤ l.length := by
            have := nodup_len hI2.rising.nodup hI2.sub
            rw [List.length_append] at this
            rw [hI.out.1]; exact this
          have hln : R.length = n := hI.out.1.symm
          have HI2 := Lib.hid (And.intro hI2 hln)
          clear hI2 hln
          generalize l[m] = x at *
          go_wp2_with (at_builtin; refine ow_append Ty.str (ys := [x]) ((HO.out.1.fr0 hf2.out).fr0 ((Fr.refl No _).alloc _)) _ _ (.string ⟨#[]⟩) 16 rfl rfl Try.underlying52 info_str rfl (by decide) (by decide) rfl rfl rfl (Row.single (t := Ty.str) (x := x) (c := [.string x]) rfl) (At.block (heap_alloc_new _ _)) (by rw [HI2.out.2]; simp; omega) ?_
                       intro A3 c3 w3 hown3 hg3 hat3
                       have hlen3 : R.length + [x].length = n + 1 := congrArg (· + 1) HI2.out.2
                       rw [hlen3] at hown3 ⊢
                       have hf3 : Fr No w w3 := ((HO.out.2.trans (hf2.out.mono fun _ _ f => f.elim)).alloc _).grown hg3 fun j hj => .inr (HO.out.1.own hj).1
                       have hown4 : Ow Ty.str 9 w3 (fun k => w.heap.size ≤ k) (.slice A3 (n + 1) c3) (R ++ [x]) := hown3.mono fun i hi _ => by
                         have := HO.out.2.size
                         have := hf2.out.size
                         simp at hi
                         omega
                       have H3 := Lib.hid (And.intro hown4 hf3)
                       clear hown3 hg3 hat3 hlen3 hf3 hown4)
          go_roundw
          case rel => exact ⟨R ++ [x], A3, c3, n + 1, rfl, ⟨by rw [List.length_append, HI2.out.2]; rfl, HI2.out.1⟩, H3.out.1, H3.out.2⟩
          case measure => simp [lenV]; omega
end Go.Proofs.Ytkcppngopdiljaa
