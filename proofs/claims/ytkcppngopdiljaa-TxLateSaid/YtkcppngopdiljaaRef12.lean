/- Reference 12 (chain): seen, Get, Put, Trim. -/
import Derived.Test.YtkcppngopdiljaaRef1
import Derived.Test.YtkcppngopdiljaaChain3
set_option linter.unusedVariables false
set_option linter.unusedSimpArgs false
namespace Go.Proofs.Ytkcppngopdiljaa
open Go.RowKit

/-- A chain as a value. -/
def tChn : Ty Chn := Ty.iso (Ty.pair (Ty.slice tVer) (Ty.int .i64)) fun c => (c.l, c.last)
theorem tChn_open {w : World} {F : Nat → Prop} {x : Chn} {cs : List Value} (h : tChn.K w F x cs) :
    ∃ A c, cs = [.slice A x.l.length c, .int .i64 x.last] ∧ x.l.length ≤ c ∧ Rd tVer w F A x.l := by
  obtain ⟨_, _, rfl, ⟨A, c, rfl, h1, h2⟩, rfl⟩ := h
  exact ⟨A, c, rfl, h1, h2⟩
theorem tChn_mk {w : World} {F : Nat → Prop} {l : List Ver} {n : Int} {A : Option Addr} {c : Nat} (h1 : l.length ≤ c) (h2 : Rd tVer w F A l) : tChn.K w F ⟨l, n⟩ [.slice A l.length c, .int .i64 n] :=
  ⟨[_], [_], rfl, ⟨A, c, rfl, h1, h2⟩, rfl⟩
theorem ver_at {w : World} {F : Nat → Prop} {A : Option Addr} {l : List Ver} (h : Rd tVer w F A l) {i : Nat} (hi : i < l.length) :
    ∃ ad A' c', A = some ad ∧ w.cell? (ad.add (i * 3)) = some (.int .i64 l[i].at_) ∧ w.cell? ⟨(ad.add (i * 3)).block, (ad.add (i * 3)).off + 1, none⟩ = some (.slice A' l[i].row.length c') ∧
      w.cell? ⟨(ad.add (i * 3)).block, (ad.add (i * 3)).off + 2, none⟩ = some (.bool l[i].gone) ∧ l[i].row.length ≤ c' ∧ Rd Ty.u8 w F A' l[i].row := by
  obtain ⟨ad, cs, e, hk, e0, e1⟩ := h.get' hi (by decide)
  obtain ⟨A', c', rfl, h1, h2⟩ := tVer_open hk
  exact ⟨ad, A', c', e, e0 _ rfl, e1 1 _ (by decide) rfl, e1 2 _ (by decide) rfl, h1, h2⟩

theorem seen_pre {c : Chn} (h : c.Ok) (a : Int) {i : Nat} (hi : i < c.l.length) : c.l[i].at_ ≤ a ↔ i < c.seen a := by
  have h1 := h.1
  unfold Chn.seen
  clear h
  generalize c.l = l at *
  induction l generalizing i with
  | nil => simp at hi
  | cons x l ih =>
    obtain ⟨hx, hl⟩ := List.pairwise_cons.1 h1
    by_cases hxa : x.at_ ≤ a
    · rw [List.takeWhile_cons_of_pos (by simpa using hxa)]
      cases i with
      | zero => simp [hxa]
      | succ i =>
        have := ih (i := i) (by simpa using hi) hl
        simpa using this
    · rw [List.takeWhile_cons_of_neg (by simpa using hxa)]
      cases i with
      | zero => simp; omega
      | succ i =>
        have hi' : i < l.length := by simpa using hi
        have := hx l[i] (List.getElem_mem _)
        simp
        omega

theorem ref_seen {w : World} {F : Nat → Prop} {A : Option Addr} {cp : Nat} {c : Chn} (a : Int) (h : Rd tVer w F A c.l) (ho : c.Ok) (hl : c.l.length ≤ 1000000000) :
    Calls Try.prog 86 #[.agg #[.slice A c.l.length cp, .int .i64 c.last], .int .i64 a] w fun e w' => e = .returned (.int .i64 (c.seen a - 1)) ∧ Fr No w w' := by
  have hle := seen_le c a
  have H := Lib.hid (And.intro h ho)
  clear h ho
  have hlI : (c.l.length : Int) ≤ 1000000000 := by omega
  go_enter Try.func86, Try.ntmps86
  go_wp2
  go_loopw [5, 6] (fun n i wr => ∃ k : Nat, k ≤ c.l.length ∧ i = .int .i64 k ∧ n = .int .i64 ((min k (c.seen a) : Nat) - 1 : Int) ∧ Hid (Fr No (w.alloc (.cells #[.slice A c.l.length cp, .int .i64 c.last] 119)) wr)) (fun _ i _ => c.l.length - (intOf i).toNat)
  case atStart => exact ⟨0, Nat.zero_le _, rfl, by simp, Fr.refl _ _⟩
  case round =>
    obtain ⟨k, hk, rfl, rfl, hf⟩ := hrel
    have b0 : wr.cell? ⟨w.heap.size, 0, none⟩ = some (.slice A c.l.length cp) := hf.out.cell (by simp) (fun f => f)
    by_cases hlt : k < c.l.length
    · obtain ⟨ad, A', c', rfl, x0, _, _, _, _⟩ := ver_at (H.out.1.fr0 (((Fr.refl No w).alloc _).trans (hf.out.mono fun _ _ f => f.elim))) hlt
      have hp := seen_pre H.out.2 a hlt
      have hk0 : (0 : Int) ≤ (k : Int) := Int.natCast_nonneg _
      have hk1 : (k : Int) < (c.l.length : Int) := by omega
      generalize c.l[k].at_ = y at *
      by_cases hy : y ≤ a
      · have : k < c.seen a := hp.1 hy
        clear hp
        go_wp2
        go_roundw
        case rel => exact ⟨k + 1, by omega, by go_num, by congr 1; omega, hf⟩
        case measure => simp [intOf]; omega
      · have : ¬ k < c.seen a := fun h => hy (hp.2 h)
        clear hp
        go_wp2
        go_roundw
        case rel => exact ⟨k + 1, by omega, by go_num, by congr 1; omega, hf⟩
        case measure => simp [intOf]; omega
    · obtain rfl : k = c.l.length := by omega
      go_wp2
      go_ret
      refine ⟨by rw [Nat.min_eq_right hle]; rfl, ((Fr.refl No w).alloc _).trans (hf.out.mono fun _ _ f => f.elim)⟩

theorem get_at {c : Chn} {a : Int} {i : Nat} (h : c.seen a = i + 1) (hi : i < c.l.length) : c.get a = if c.l[i].gone then none else some c.l[i].row := by
  unfold Chn.get; rw [h]; simp [hi]
theorem get_none {c : Chn} {a : Int} (h : c.seen a = 0) : c.get a = none := by unfold Chn.get; split <;> simp [h]
theorem cut_at {c : Chn} {a : Int} {i : Nat} (h : c.seen a = i + 1) (hi : i < c.l.length) : c.cut a = if c.l[i].gone then i + 1 else i := by
  unfold Chn.cut; rw [h]; simp [hi]
theorem cut_none {c : Chn} {a : Int} (h : c.seen a = 0) : c.cut a = 0 := by unfold Chn.cut; split <;> simp [h]

/-- A row, or none, as two results; it is read. -/
def RowRd (w' : World) (F : Nat → Prop) (e : Ending) (r : Option Bs) : Prop :=
  ∃ A1 c1, e = .returned (.tuple #[.slice A1 (r.getD []).length c1, .bool r.isSome]) ∧ (r.getD []).length ≤ c1 ∧ Rd Ty.u8 w' F A1 (r.getD [])

theorem ref_cget {w : World} {F : Nat → Prop} {A : Option Addr} {cp : Nat} {c : Chn} (a : Int) (h : Rd tVer w F A c.l) (ho : c.Ok) (hl : c.l.length ≤ 1000000000) :
    Calls Try.prog 70 #[.agg #[.slice A c.l.length cp, .int .i64 c.last], .int .i64 a] w fun e w' => RowRd w' F e (c.get a) ∧ Fr No w w' := by
  have hle := seen_le c a
  have hs := fun w' (f : Fr No w w') => ref_seen (w := w') (cp := cp) a (h.fr0 f) ho hl
  have hlI : (c.l.length : Int) ≤ 1000000000 := by omega
  by_cases h0 : c.seen a = 0
  · rw [get_none h0]
    have HS := Lib.hid hs
    clear hs h ho
    go_enter Try.func70, Try.ntmps70
    go_wp2_with (go_at_call 86; refine (HS.out _ ((Fr.refl No w).alloc _)).mono ?_; rintro e w1 ⟨rfl, hf⟩; rw [h0])
    go_ret2
    exact ⟨⟨none, 0, rfl, by simp, Rd.nil⟩, ((Fr.refl No w).alloc _).trans (hf.mono fun _ _ f => f.elim)⟩
  · obtain ⟨i, hie⟩ : ∃ i, c.seen a = i + 1 := ⟨c.seen a - 1, by omega⟩
    have hi : i < c.l.length := by omega
    rw [get_at hie hi]
    have H1 : ∀ w1, Fr No w w1 → ∃ ad A' c', A = some ad ∧ w1.cell? ⟨(ad.add (i * 3)).block, (ad.add (i * 3)).off + 1, none⟩ = some (.slice A' c.l[i].row.length c') ∧
        w1.cell? ⟨(ad.add (i * 3)).block, (ad.add (i * 3)).off + 2, none⟩ = some (.bool c.l[i].gone) ∧ c.l[i].row.length ≤ c' ∧ Rd Ty.u8 w1 F A' c.l[i].row := by
      intro w1 f
      obtain ⟨ad, A', c', e, _, h2⟩ := ver_at (h.fr0 f) hi
      exact ⟨ad, A', c', e, h2⟩
    have hi0 : (0 : Int) ≤ (i : Int) := Int.natCast_nonneg _
    have hi1 : (i : Int) < (c.l.length : Int) := by omega
    have hi2 : ((i + 1 : Nat) : Int) - 1 = (i : Int) := by omega
    have HS := Lib.hid (And.intro hs H1)
    clear hs h ho H1
    generalize c.l[i].gone = g at *
    generalize c.l[i].row = row at *
    generalize c.l.length = n at *
    cases g
    · go_enter Try.func70, Try.ntmps70
      go_wp2_with (go_at_call 86; refine (HS.out.1 _ ((Fr.refl No w).alloc _)).mono ?_; rintro e w1 ⟨rfl, hf⟩; rw [hie, hi2]
                   have hfw : Fr No w w1 := ((Fr.refl No w).alloc _).trans (hf.mono fun _ _ f => f.elim)
                   have b0 : w1.cell? ⟨w.heap.size, 0, none⟩ = some (.slice A n cp) := hf.cell (by simp) (fun f => f)
                   obtain ⟨ad, A', c', rfl, x1, x2, hc', hrd⟩ := HS.out.2 w1 hfw
                   have HF := Lib.hid (And.intro hfw (And.intro hc' hrd))
                   clear hfw hf hc' hrd)
      go_ret2
      exact ⟨⟨A', c', rfl, HF.out.2.1, HF.out.2.2⟩, HF.out.1⟩
    · go_enter Try.func70, Try.ntmps70
      go_wp2_with (go_at_call 86; refine (HS.out.1 _ ((Fr.refl No w).alloc _)).mono ?_; rintro e w1 ⟨rfl, hf⟩; rw [hie, hi2]
                   have hfw : Fr No w w1 := ((Fr.refl No w).alloc _).trans (hf.mono fun _ _ f => f.elim)
                   have b0 : w1.cell? ⟨w.heap.size, 0, none⟩ = some (.slice A n cp) := hf.cell (by simp) (fun f => f)
                   obtain ⟨ad, A', c', rfl, x1, x2, hc', hrd⟩ := HS.out.2 w1 hfw
                   have HF := Lib.hid hfw
                   clear hfw hf hc' hrd)
      go_ret2
      exact ⟨⟨none, 0, rfl, by simp, Rd.nil⟩, HF.out⟩
end Go.Proofs.Ytkcppngopdiljaa
