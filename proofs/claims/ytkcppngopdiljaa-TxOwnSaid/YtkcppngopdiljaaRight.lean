/- Layer 6 (record): may a batch be? -/
import Derived.Test.YtkcppngopdiljaaProg
import Derived.Test.YtkcppngopdiljaaSpec06
import Derived.Deep.QuietTactic
import Derived.BigQuiet
set_option linter.unusedVariables false
set_option linter.unusedSimpArgs false
namespace Go.Proofs.Ytkcppngopdiljaa
open Go.RowKit

set_option maxHeartbeats 1000000 in
theorem fits_ok {w : World} (k last : ByteArray) (g : Bool) (A : Option Addr) (c : Nat) (r : Bs) (hk : k.size ≤ 9223372036854775807) (hr : r.length ≤ 9223372036854775807) :
    Calls Try.prog 74 #[.agg #[.string k, .slice A r.length c, .bool g], .string last] w fun e w' => e = .returned (.bool (fits ⟨k, r, g⟩ last)) ∧ Fr No w w' := by
  have hf : fits ⟨k, r, g⟩ last = (decide (1 ≤ k.size) && decide (k.size ≤ 4000) && decide (r.length ≤ 4000) && (!(Op.bytesLess k.toList last.toList || k.toList == last.toList)) && (!g || decide (r.length = 0))) := by
    rw [kl_not]; rfl
  rw [hf]
  clear hf
  generalize r.length = n at *
  have e0 : decide (n = 0) = ((n : Int) == 0) := by rw [Bool.eq_iff_iff]; simp
  rw [e0]
  clear e0
  have hn0 : (0 : Int) ≤ (n : Int) := Int.natCast_nonneg _
  have hk0 : (0 : Int) ≤ (k.size : Int) := Int.natCast_nonneg _
  have HF := Lib.hid ((Fr.refl No w).alloc (.cells #[.string k, .slice A n c, .bool g] 43))
  by_cases h1 : 1 ≤ k.size
  · by_cases h2 : k.size ≤ 4000
    · by_cases h3 : n ≤ 4000
      · cases h4 : Op.bytesLess k.toList last.toList <;> cases h5 : (k.toList == last.toList)
        · cases g
          · go_enter Try.func74, Try.ntmps74
            go_wp2
            all_goals (go_ret; exact ⟨by simp [*], HF.out⟩)
          · cases h6 : ((n : Int) == 0)
            all_goals
              go_enter Try.func74, Try.ntmps74
              go_wp2
              all_goals (go_ret; exact ⟨by simp [*], HF.out⟩)
        all_goals
          go_enter Try.func74, Try.ntmps74
          go_wp2
          all_goals (go_ret; exact ⟨by simp [*], HF.out⟩)
      · go_enter Try.func74, Try.ntmps74
        go_wp2
        all_goals (go_ret; exact ⟨by simp [*], HF.out⟩)
    · go_enter Try.func74, Try.ntmps74
      go_wp2
      all_goals (go_ret; exact ⟨by simp [*], HF.out⟩)
  · go_enter Try.func74, Try.ntmps74
    go_wp2
    all_goals (go_ret; exact ⟨by simp [*], HF.out⟩)

/-- Each element's cells, wherever the loop stands. -/
theorem wr_at {w : World} {F : Nat → Prop} {A : Option Addr} {ws : List Wr} (h : Rd tWr w F A ws) {i : Nat} (hi : i < ws.length) :
    ∃ ad A' c', A = some ad ∧ w.cell? (ad.add (i * 3)) = some (.string ws[i].key) ∧ w.cell? ⟨(ad.add (i * 3)).block, (ad.add (i * 3)).off + 1, none⟩ = some (.slice A' ws[i].row.length c') ∧
      w.cell? ⟨(ad.add (i * 3)).block, (ad.add (i * 3)).off + 2, none⟩ = some (.bool ws[i].gone) ∧ ws[i].row.length ≤ c' ∧ Rd Ty.u8 w F A' ws[i].row := by
  obtain ⟨ad, cs, e, hk, e0, e1⟩ := h.get' hi (by decide)
  obtain ⟨A', c', rfl, h1, h2⟩ := tWr_open hk
  exact ⟨ad, A', c', e, e0 _ rfl, e1 1 _ (by decide) rfl, e1 2 _ (by decide) rfl, h1, h2⟩
def lastKey (last : ByteArray) (l : List Wr) : ByteArray := (l.getLast?.map Wr.key).getD last
theorem allFit_take {last : ByteArray} {l : List Wr} {i : Nat} (hi : i < l.length) : allFit last (l.take (i + 1)) = (allFit last (l.take i) && fits l[i] (lastKey last (l.take i))) := by
  rw [List.take_succ_eq_append_getElem hi, allFit_append]; rfl
theorem allFit_prefix {last : ByteArray} {l : List Wr} (i : Nat) (h : allFit last l = true) : allFit last (l.take i) = true := by
  induction l generalizing last i with
  | nil => simpa using h
  | cons y l ih =>
    cases i with
    | zero => rfl
    | succ i => simp only [allFit, Bool.and_eq_true, List.take_succ_cons] at h ⊢; exact ⟨h.1, ih _ h.2⟩
theorem lastKey_take {last : ByteArray} {l : List Wr} {i : Nat} (hi : i < l.length) : lastKey last (l.take (i + 1)) = l[i].key := by
  unfold lastKey; rw [List.take_succ_eq_append_getElem hi, List.getLast?_concat]; rfl

set_option maxHeartbeats 1000000 in
theorem right_ok {w : World} {F : Nat → Prop} (n : Int) (A : Option Addr) (c : Nat) (ws : List Wr) (h : Rd tWr w F A ws) (hl : ws.length ≤ 1000000000) (hk : ∀ x ∈ ws, x.key.size ≤ 9223372036854775807) :
    Calls Try.prog 57 #[.agg #[.int .i64 n, .slice A ws.length c]] w fun e w' => e = .returned (.bool (right n ws)) ∧ Fr No w w' := by
  have HR := Lib.hid h
  have HK := Lib.hid hk
  clear h hk
  go_enter Try.func57, Try.ntmps57
  go_wp2
  go_loopw [3, 9] (fun last i wr => ∃ k : Nat, k ≤ ws.length ∧ i = .int .i64 k ∧ last = .string (lastKey ⟨#[]⟩ (ws.take k)) ∧ Hid (allFit ⟨#[]⟩ (ws.take k) = true) ∧ Hid (Fr No (w.alloc (.cells #[.int .i64 n, .slice A ws.length c] 40)) wr)) (fun _ i _ => ws.length - (intOf i).toNat)
  case atStart => exact ⟨0, Nat.zero_le _, rfl, rfl, rfl, Fr.refl _ _⟩
  case round =>
    obtain ⟨k, hk, rfl, rfl, ha, hf⟩ := hrel
    have hb1 : wr.cell? ⟨w.heap.size, 1, none⟩ = some (.slice A ws.length c) := hf.out.cell (by simp) (fun f => f)
    have hb0 : wr.cell? ⟨w.heap.size, 0, none⟩ = some (.int .i64 n) := hf.out.cell (by simp) (fun f => f)
    have hwr : Fr No w wr := (((Fr.refl No w).alloc _).trans (hf.out.mono fun _ _ f => f.elim))
    have hn1 : (ws.length : Int) ≤ 1000000000 := by omega
    by_cases hlt : k < ws.length
    · obtain ⟨ad, A', c', rfl, x0, x1, x2, _, hrd⟩ := wr_at (HR.out.fr0 hwr) hlt
      have hrow : ws[k].row.length ≤ 9223372036854775807 := hrd.1
      have hfit := allFit_take (last := ⟨#[]⟩) hlt
      rw [ha.out, Bool.true_and] at hfit
      have hkey := lastKey_take (last := ⟨#[]⟩) hlt
      have hsz := HK.out _ (List.getElem_mem hlt)
      obtain ⟨x, hx⟩ : ∃ x, ws[k] = x := ⟨_, rfl⟩
      rw [hx] at x0 x1 x2 hfit hkey hsz hrow
      have hk0 : (0 : Int) ≤ (k : Int) := Int.natCast_nonneg _
      have hk1 : (k : Int) < (ws.length : Int) := by omega
      have HFit := Lib.hid (And.intro hfit (And.intro hkey hwr))
      clear hfit hkey hx hwr hrd
      cases hfx : fits x (lastKey ⟨#[]⟩ (ws.take k))
      · have hno : Hid (right n ws = false) := by
          have : allFit ⟨#[]⟩ ws = false := by
            cases hA : allFit ⟨#[]⟩ ws with
            | false => rfl
            | true => have := allFit_prefix (k + 1) hA; rw [HFit.out.1, hfx] at this; cases this
          show _ = _
          unfold right
          rw [this]; rfl
        go_wp2_with (go_at_call 74; refine (fits_ok _ _ _ _ _ _ hsz hrow).mono ?_; rintro e w1 ⟨rfl, hf1⟩; rw [show (⟨x.key, x.row, x.gone⟩ : Wr) = x from rfl, hfx])
        go_ret
        exact ⟨by rw [hno.out]; rfl, (HFit.out.2.2.alloc _).trans (hf1.mono fun _ _ f => f.elim)⟩
      · go_wp2_with (go_at_call 74; refine (fits_ok _ _ _ _ _ _ hsz hrow).mono ?_; rintro e w1 ⟨rfl, hf1⟩; rw [show (⟨x.key, x.row, x.gone⟩ : Wr) = x from rfl, hfx]
                     have hb5 : w1.cell? ⟨wr.heap.size, 0, none⟩ = some (.string x.key) := hf1.cell (by simp) (fun f => f))
        go_roundw
        case rel => exact ⟨k + 1, by omega, by go_num, by rw [HFit.out.2.1], by show _ = _; rw [HFit.out.1]; exact hfx, (hf.out.alloc _).trans (hf1.mono fun _ _ f => f.elim)⟩
        case measure => simp [intOf]; omega
    · obtain rfl : k = ws.length := by omega
      rw [List.take_length] at ha
      have hr : Hid (right n ws = (decide (1 ≤ n) && decide (1 ≤ ws.length) && decide (ws.length ≤ 64))) := by
        show _ = _
        unfold right
        rw [ha.out, Bool.true_and]
      by_cases h1 : 1 ≤ n
      · by_cases h2 : 1 ≤ ws.length
        · go_wp2
          go_ret
          exact ⟨by rw [hr.out, decide_eq_true h1, decide_eq_true h2]; simp; omega, hwr⟩
        · go_wp2
          go_ret
          exact ⟨by rw [hr.out, decide_eq_true h1, decide_eq_false h2]; rfl, hwr⟩
      · go_wp2
        go_ret
        exact ⟨by rw [hr.out, decide_eq_false (show ¬ 1 ≤ n by omega)]; rfl, hwr⟩
end Go.Proofs.Ytkcppngopdiljaa
