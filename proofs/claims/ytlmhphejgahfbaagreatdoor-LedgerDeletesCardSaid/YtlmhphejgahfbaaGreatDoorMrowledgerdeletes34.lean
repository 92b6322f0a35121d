/- Texts of this claim, one behind the other: Same, OpenL, OkP, LedS. -/
import Derived.Test.YtlmhphejgahfbaaGreatDoorMrowledgerdeletes10
import Derived.Test.YtlmhphejgahfbaaGreatDoorMrowledgerdeletes26
import Derived.Test.YtlmhphejgahfbaaGreatDoorMrowledgerdeletes23
import Derived.Test.YtlmhphejgahfbaaGreatDoorMrowledgerdeletes29
import Derived.Test.YtlmhphejgahfbaaGreatDoorMrowledgerdeletesKOnce
/- Small things: reference 1's Same; chapter 15's small and errs. -/
set_option linter.unusedVariables false
set_option linter.unusedSimpArgs false
namespace Go.Proofs.YtlmhphejgahfbaaGreatDoor
open Go.RowKit

theorem i64_at {w : World} {F : Nat → Prop} {A : Option Addr} {l : List Int} (h : Rd (Ty.int .i64) w F A l) {i : Nat} (hi : i < l.length) : ∃ ad, A = some ad ∧ w.cell? (ad.add i) = some (.int .i64 l[i]) := by
  obtain ⟨ad, cs, e, hk, h0, _⟩ := h.get' hi (show 0 < 1 by decide)
  obtain rfl : cs = _ := hk
  have := h0 _ rfl
  rw [show (Ty.int .i64).sz = 1 from rfl, Nat.mul_one] at this
  exact ⟨ad, e, this⟩
theorem val_ne {x1 y1 : UInt8} {x2 y2 : Int} {x3 y3 : ByteArray} (h : ¬ ((x1, x2, x3) : Val) = (y1, y2, y3)) : ¬ (x1.toNat : Int) = (y1.toNat : Int) ∨ (x1 = y1 ∧ ¬ x2 = y2) ∨ (x1 = y1 ∧ x2 = y2 ∧ ¬ x3.toList = y3.toList) := by
  by_cases h1 : x1 = y1
  · by_cases h2 : x2 = y2
    · refine .inr (.inr ⟨h1, h2, fun e => h ?_⟩)
      have := beq_toList x3 y3
      rw [e, beq_self_eq_true] at this
      rw [h1, h2, of_decide_eq_true this.symm]
    · exact .inr (.inl ⟨h1, h2⟩)
  · exact .inl fun e => h1 (UInt8.toNat_inj.1 (by omega))
set_option maxHeartbeats 2000000 in
set_option maxRecDepth 100000 in
theorem same_ok {w : World} {F G : Nat → Prop} {A B : Option Addr} {n m c d : Nat} {xs ys : List Val} (ha : Rd tVal w F A xs) (hb : Rd tVal w G B ys) (hn : n = xs.length) (hm : m = ys.length) (hl : xs.length ≤ 1000) (hl' : ys.length ≤ 1000) :
    Calls Tryz.prog 23 #[.slice A n c, .slice B m d] w fun e w' => e = .returned (.bool (decide (xs = ys))) ∧ Fr No w w' := by
  have hni : (n : Int) ≤ 1000 := by omega
  have hmi : (m : Int) ≤ 1000 := by omega
  by_cases hlen : xs.length = ys.length
  · have hnm : n = m := by omega
    subst hnm
    have H := Lib.hid (And.intro ha (And.intro hb (And.intro hn (And.intro hm hlen))))
    clear ha hb hn hm hl hl' hlen
    go_enter Tryz.func23, Tryz.ntmps23
    go_wp2_with fail
    go_loopw [5] (fun iv wr => ∃ k : Nat, k ≤ n ∧ iv = .int .i64 (k : Int) ∧ Hid (xs.take k = ys.take k ∧ Fr No w wr)) (fun iv _ => n - (intOf iv).toNat)
    case atStart => exact ⟨0, Nat.zero_le _, rfl, rfl, Fr.refl No w⟩
    case round =>
      obtain ⟨k, hk, rfl, I⟩ := hrel
      have hk0 : (0 : Int) ≤ (k : Int) := Int.natCast_nonneg _
      by_cases hlt : k < n
      · have hk1 : (k : Int) < (n : Int) := by omega
        have hx : k < xs.length := by have := H.out.2.2.1; omega
        have hy : k < ys.length := by have := H.out.2.2.2.1; omega
        obtain ⟨ad, rfl, a0, a1, a2⟩ := val_at (H.out.1.fr0 I.out.2) hx
        obtain ⟨bd, rfl, b0, b1, b2⟩ := val_at (H.out.2.1.fr0 I.out.2) hy
        obtain ⟨x, hxe⟩ : ∃ x, xs[k] = x := ⟨_, rfl⟩
        obtain ⟨y, hye⟩ : ∃ y, ys[k] = y := ⟨_, rfl⟩
        rw [hxe] at a0 a1 a2
        rw [hye] at b0 b1 b2
        have hnext : xs.take (k + 1) = ys.take (k + 1) ↔ x = y := by
          rw [List.take_succ_eq_append_getElem (l := xs) hx, List.take_succ_eq_append_getElem (l := ys) hy, I.out.1, hxe, hye]
          constructor
          · intro e
            have := List.append_cancel_left e
            injection this
          · intro e
            rw [e]
        have hno : x ≠ y → xs ≠ ys := fun h e => h (by rw [← hxe, ← hye]; subst e; rfl)
        have HN := Lib.hid (And.intro hnext (And.intro hno I.out.2))
        clear hnext hno I hxe hye
        obtain ⟨x1, x2, x3⟩ := x
        obtain ⟨y1, y2, y3⟩ := y
        dsimp only at a0 a1 a2 b0 b1 b2
        by_cases he : ((x1, x2, x3) : Val) = (y1, y2, y3)
        · have HE := Lib.hid (HN.out.1.2 he)
          injection he with e1 e2
          injection e2 with e2 e3
          subst e1 e2 e3
          go_wp2
          go_quiet (fail)
          go_wp2
          go_roundw
          case rel => exact ⟨k + 1, by omega, by go_num, HE.out, HN.out.2.2.drewN _⟩
          case measure => simp [intOf]; omega
        · have HE := Lib.hid (HN.out.2.1 he)
          rcases val_ne he with q | ⟨rfl, q⟩ | ⟨rfl, rfl, q⟩
          · clear he
            go_wp2
            go_quiet (fail)
            go_wp2
            go_ret
            exact ⟨by rw [decide_eq_false HE.out]; rfl, HN.out.2.2.drewN _⟩
          · clear he
            go_wp2
            go_quiet (fail)
            go_wp2
            go_ret
            exact ⟨by rw [decide_eq_false HE.out]; rfl, HN.out.2.2.drewN _⟩
          · clear he
            go_wp2
            go_quiet (fail)
            go_wp2
            go_ret
            exact ⟨by rw [decide_eq_false HE.out]; rfl, HN.out.2.2.drewN _⟩
      · obtain rfl : k = n := by omega
        have he : xs = ys := by
          have h1 := I.out.1
          rw [List.take_of_length_le (by have := H.out.2.2.1; omega), List.take_of_length_le (by have := H.out.2.2.2.1; omega)] at h1
          exact h1
        have HE := Lib.hid he
        clear he
        go_wp2
        go_ret
        exact ⟨by rw [decide_eq_true HE.out]; rfl, I.out.2⟩
  · have hne : ¬ (n : Int) = (m : Int) := by omega
    have HE := Lib.hid (And.intro (show ¬ xs = ys from fun e => hlen (by rw [e])) (Fr.refl No w))
    clear hlen ha hb hn hm
    go_enter Tryz.func23, Tryz.ntmps23
    go_wp2
    go_ret
    exact ⟨by rw [decide_eq_false HE.out.1]; rfl, HE.out.2⟩

set_option maxHeartbeats 2000000 in
set_option maxRecDepth 100000 in
theorem errs_ok {w : World} {F G : Nat → Prop} {A B : Option Addr} {n m c d : Nat} {xs ys : List Int} (ha : Rd (Ty.int .i64) w F A xs) (hb : Rd (Ty.int .i64) w G B ys) (hn : n = xs.length) (hm : m = ys.length) (hl : xs.length ≤ 1000) (hl' : ys.length ≤ 1000) :
    Calls Tryz.prog 24 #[.slice A n c, .slice B m d] w fun e w' => e = .returned (.bool (decide (xs = ys))) ∧ Fr No w w' := by
  have hni : (n : Int) ≤ 1000 := by omega
  have hmi : (m : Int) ≤ 1000 := by omega
  by_cases hlen : xs.length = ys.length
  · have hnm : n = m := by omega
    subst hnm
    have H := Lib.hid (And.intro ha (And.intro hb (And.intro hn (And.intro hm hlen))))
    clear ha hb hn hm hl hl' hlen
    go_enter Tryz.func24, Tryz.ntmps24
    go_wp2_with fail
    go_loopw [5] (fun iv wr => ∃ k : Nat, k ≤ n ∧ iv = .int .i64 (k : Int) ∧ Hid (xs.take k = ys.take k ∧ Fr No w wr)) (fun iv _ => n - (intOf iv).toNat)
    case atStart => exact ⟨0, Nat.zero_le _, rfl, rfl, Fr.refl No w⟩
    case round =>
      obtain ⟨k, hk, rfl, I⟩ := hrel
      have hk0 : (0 : Int) ≤ (k : Int) := Int.natCast_nonneg _
      by_cases hlt : k < n
      · have hk1 : (k : Int) < (n : Int) := by omega
        have hx : k < xs.length := by have := H.out.2.2.1; omega
        have hy : k < ys.length := by have := H.out.2.2.2.1; omega
        obtain ⟨ad, rfl, a0⟩ := i64_at (H.out.1.fr0 I.out.2) hx
        obtain ⟨bd, rfl, b0⟩ := i64_at (H.out.2.1.fr0 I.out.2) hy
        obtain ⟨x, hxe⟩ : ∃ x, xs[k] = x := ⟨_, rfl⟩
        obtain ⟨y, hye⟩ : ∃ y, ys[k] = y := ⟨_, rfl⟩
        rw [hxe] at a0
        rw [hye] at b0
        have hnext : xs.take (k + 1) = ys.take (k + 1) ↔ x = y := by
          rw [List.take_succ_eq_append_getElem (l := xs) hx, List.take_succ_eq_append_getElem (l := ys) hy, I.out.1, hxe, hye]
          constructor
          · intro e
            have := List.append_cancel_left e
            injection this
          · intro e
            rw [e]
        have hno : x ≠ y → xs ≠ ys := fun h e => h (by rw [← hxe, ← hye]; subst e; rfl)
        have HN := Lib.hid (And.intro hnext (And.intro hno I.out.2))
        clear hnext hno I hxe hye
        by_cases he : x = y
        · have HE := Lib.hid (HN.out.1.2 he)
          subst he
          go_wp2
          go_quiet (fail)
          go_wp2
          go_roundw
          case rel => exact ⟨k + 1, by omega, by go_num, HE.out, HN.out.2.2.drewN _⟩
          case measure => simp [intOf]; omega
        · have HE := Lib.hid (HN.out.2.1 he)
          go_wp2
          go_quiet (fail)
          go_wp2
          go_ret
          exact ⟨by rw [decide_eq_false HE.out]; rfl, HN.out.2.2.drewN _⟩
      · obtain rfl : k = n := by omega
        have he : xs = ys := by
          have h1 := I.out.1
          rw [List.take_of_length_le (by have := H.out.2.2.1; omega), List.take_of_length_le (by have := H.out.2.2.2.1; omega)] at h1
          exact h1
        have HE := Lib.hid he
        clear he
        go_wp2
        go_ret
        exact ⟨by rw [decide_eq_true HE.out]; rfl, I.out.2⟩
  · have hne : ¬ (n : Int) = (m : Int) := by omega
    have HE := Lib.hid (And.intro (show ¬ xs = ys from fun e => hlen (by rw [e])) (Fr.refl No w))
    clear hlen ha hb hn hm
    go_enter Tryz.func24, Tryz.ntmps24
    go_wp2
    go_ret
    exact ⟨by rw [decide_eq_false HE.out.1]; rfl, HE.out.2⟩
/-- Are there few tables, each narrow? -/
def smallF (l : List Frm) : Bool := (l.all fun f => decide (f.1.length ≤ 9)) && decide (l.length ≤ 5)
set_option maxHeartbeats 2000000 in
set_option maxRecDepth 100000 in
theorem small_ok {w : World} {R : Nat → Prop} {A : Option Addr} {n c : Nat} {l : List Frm} (h : Rd tFrm w R A l) (hn : n = l.length) :
    Calls Tryz.prog 21 #[.agg #[.slice A n c, .slice none 0 0]] w fun e w' => e = .returned (.bool (smallF l)) ∧ Fr No w w' := by
  have hn63 : (n : Int) ≤ 9223372036854775807 := by have := h.1; omega
  have hn0 : (0 : Int) ≤ (n : Int) := Int.natCast_nonneg _
  obtain ⟨W, hW⟩ : ∃ W, W = w.alloc (.cells #[.slice A n c, .slice none 0 0] 50) := ⟨_, rfl⟩
  have hf : Fr No w W := by rw [hW]; exact (Fr.refl No w).alloc _
  have hb : W.heap[w.heap.size]? = some (.cells #[.slice A n c, .slice none 0 0] 50 (0, 0)) := by rw [hW]; exact heap_alloc_new w _
  have H := Lib.hid (And.intro h (And.intro hn (And.intro hf hb)))
  clear h hn hf hb
  go_enter Tryz.func21, Tryz.ntmps21
  go_wp2_with fail
  rw [← hW]
  clear hW
  have m0 := blk_cell H.out.2.2.2 0
  have m1 := blk_cell H.out.2.2.2 1
  simp at m0 m1
  refine wp_loop_rounds 1 ?_
  rw [rounds_succ]
  go_wp2_with fail
  have HW := Lib.hid (Fr.refl No W)
  go_loopw [4] (fun iv wr => ∃ k : Nat, k ≤ n ∧ iv = .int .i64 (k : Int) ∧ Hid (((l.take k).all fun f => decide (f.1.length ≤ 9)) = true ∧ Fr No W wr)) (fun iv _ => n - (intOf iv).toNat)
  case atStart => exact ⟨0, Nat.zero_le _, rfl, rfl, HW.out⟩
  case round =>
    obtain ⟨k, hk, rfl, I⟩ := hrel
    have hk0 : (0 : Int) ≤ (k : Int) := Int.natCast_nonneg _
    have m0' := I.out.2.cell m0 (fun f => f)
    have m1' := I.out.2.cell m1 (fun f => f)
    by_cases hlt : k < n
    · have hk1 : (k : Int) < (n : Int) := by omega
      have hkl : k < l.length := by have := H.out.2.1; omega
      have hfr : Fr No w wr := H.out.2.2.1.next I.out.2 (fun _ _ f => f.elim)
      obtain ⟨ad, RR, cc, rfl, x0, x1, hcc, hrr⟩ := frm_at (H.out.1.fr0 hfr) hkl
      have hsnoc : ((l.take (k + 1)).all fun f => decide (f.1.length ≤ 9)) = (((l.take k).all fun f => decide (f.1.length ≤ 9)) && decide (l[k].1.length ≤ 9)) := by
        rw [List.take_succ_eq_append_getElem hkl, List.all_append]; simp
      have hlow : ¬ l[k].1.length ≤ 9 → smallF l = false := fun h => by
        unfold smallF
        rw [Bool.and_eq_false_iff]
        refine .inl ?_
        rw [List.all_eq_false]
        exact ⟨l[k], List.getElem_mem hkl, by simpa using h⟩
      obtain ⟨f, hf⟩ : ∃ f, l[k] = f := ⟨_, rfl⟩
      rw [hf] at x0 x1 hsnoc hlow
      obtain ⟨m, hm⟩ : ∃ m, f.1.length = m := ⟨_, rfl⟩
      rw [hm] at x0 hsnoc hlow
      by_cases h9 : m ≤ 9
      · have h9i : (m : Int) ≤ 9 := by omega
        have HS := Lib.hid (And.intro (show ((l.take (k + 1)).all fun f => decide (f.1.length ≤ 9)) = true by rw [hsnoc, I.out.1, decide_eq_true h9]; rfl) I.out.2)
        clear hsnoc hlow h9 hm hf
        go_wp2_with fail
        go_roundw
        case rel => exact ⟨k + 1, by omega, by go_num, HS.out⟩
        case measure => simp [intOf]; omega
      · have h9i : (9 : Int) < (m : Int) := by omega
        have HS := Lib.hid (And.intro (hlow h9) hfr)
        clear hsnoc hlow h9 hm hf
        go_wp2_with fail
        go_ret
        exact ⟨by rw [HS.out.1]; rfl, HS.out.2⟩
    · obtain rfl : k = n := by omega
      have hfr : Fr No w wr := H.out.2.2.1.next I.out.2 (fun _ _ f => f.elim)
      have hall : (l.all fun f => decide (f.1.length ≤ 9)) = true := by
        have h1 := I.out.1
        rwa [List.take_of_length_le (by have := H.out.2.1; omega)] at h1
      by_cases h5 : k ≤ 5
      · have h5i : (k : Int) ≤ 5 := by omega
        have HS := Lib.hid (And.intro (show smallF l = true by unfold smallF; rw [hall, decide_eq_true (by have := H.out.2.1; omega)]; rfl) hfr)
        clear hall h5 hfr
        go_wp2_with fail
        go_ret
        exact ⟨by rw [HS.out.1]; rfl, HS.out.2⟩
      · have h5i : (5 : Int) < (k : Int) := by omega
        have HS := Lib.hid (And.intro (show smallF l = false by unfold smallF; rw [hall, decide_eq_false (by have := H.out.2.1; omega)]; rfl) hfr)
        clear hall h5 hfr
        go_wp2_with fail
        go_ret
        exact ⟨by rw [HS.out.1]; exact congrArg (fun b => Ending.returned (Value.bool b)) (decide_eq_false (show ¬ (k : Int) ≤ 5 by omega)), HS.out.2⟩
theorem small_few {l : List Frm} (h : smallF l = true) : l.length ≤ 5 ∧ ∀ f ∈ l, f.1.length ≤ 9 := by
  unfold smallF at h
  rw [Bool.and_eq_true] at h
  exact ⟨of_decide_eq_true h.2, fun f hf => by simpa using List.all_eq_true.1 h.1 f hf⟩
end Go.Proofs.YtlmhphejgahfbaaGreatDoor
/- Layer 15 (ledger): Open, Abort over a ledger in memory. -/
set_option linter.unusedVariables false
set_option linter.unusedSimpArgs false
namespace Go.Proofs.YtlmhphejgahfbaaGreatDoor
open Go.RowKit

theorem led_of_at {w : World} {col : Nat → Nat} {lb : Nat} {L : Led} (h : LedAt w col lb L) (id : Int) :
    Calls Tryz.prog 46 #[.pointer (some ⟨lb, 0, none⟩), .int .i64 id] w fun e w' => (∃ x, e = .returned (.tuple #[.pointer x, .int .i64 (if (L.find id).isSome then 0 else 6)])) ∧ w' = w := by
  obtain ⟨A, c, sb, mb, vst, l, hP⟩ := h
  cases hx : L.find id with
  | none =>
    refine (led_of id none hP.blk hP.map (hP.txs.none_ _ hx)).mono ?_
    rintro e w' ⟨rfl, rfl⟩
    exact ⟨⟨none, rfl⟩, rfl⟩
  | some x =>
    obtain ⟨xb, h1, _⟩ := hP.txs.some_ _ x hx
    refine (led_of id (some ⟨xb, 0, none⟩) hP.blk hP.map h1).mono ?_
    rintro e w' ⟨rfl, rfl⟩
    exact ⟨⟨_, rfl⟩, rfl⟩
theorem led_open_at {w : World} {col : Nat → Nat} {lb : Nat} {L : Led} (h : LedAt w col lb L) (id : Int) :
    Calls Tryz.prog 25 #[.pointer (some ⟨lb, 0, none⟩), .int .i64 id] w fun e w' => e = .returned (.bool (L.find id).isSome) ∧ w' = w := by
  obtain ⟨A, c, sb, mb, vst, l, hP⟩ := h
  cases hx : L.find id with
  | none =>
    refine (led_open id none hP.blk hP.map (hP.txs.none_ _ hx)).mono ?_
    rintro e w' ⟨rfl, rfl⟩
    exact ⟨rfl, rfl⟩
  | some x =>
    obtain ⟨xb, h1, _⟩ := hP.txs.some_ _ x hx
    refine (led_open id (some ⟨xb, 0, none⟩) hP.blk hP.map h1).mono ?_
    rintro e w' ⟨rfl, rfl⟩
    exact ⟨rfl, rfl⟩
end Go.Proofs.YtlmhphejgahfbaaGreatDoor
/- Layer 15 (ledger): few things stay few: Publish. -/
set_option linter.unusedVariables false
set_option linter.unusedSimpArgs false
namespace Go.Proofs.YtlmhphejgahfbaaGreatDoor
open Go.RowKit

theorem Led.Ok.mono {L : Led} {m n : Nat} (h : L.Ok m) (hmn : m ≤ n) : L.Ok n :=
  ⟨h.tabs, ⟨h.sto.now0, by have := h.sto.now1; omega, by have := h.sto.keys; omega, h.sto.ksz, fun p hp => by have := h.sto.chains p hp; exact ⟨by omega, this.2.1, this.2.2⟩⟩, h.next0, by have := h.next1; omega, h.ids, h.once, h.base, h.ws, h.rise, h.sts, fun x hx => by obtain ⟨a, b, c, d, e⟩ := h.st x hx; exact ⟨a, b, c, d, by omega⟩⟩
theorem Led.Ok.dropped {L : Led} {m : Nat} (h : L.Ok m) (ids : List Int) : (L.dropped ids).Ok m := by
  obtain ⟨q1, q2, q3, q4, q5⟩ := dropped_parts L ids
  have hs := q5.subset
  exact ⟨by rw [q1]; exact h.tabs, by rw [q2]; exact h.sto, by rw [q3]; exact h.next0, by rw [q3]; exact h.next1, fun x hx => by rw [q3]; exact h.ids x (hs hx), (q5.map LTx.id).nodup h.once, fun x hx => by rw [q2]; exact h.base x (hs hx), fun x hx => h.ws x (hs hx), fun x hx => h.rise x (hs hx), by rw [q4]; exact h.sts, by rw [q4]; exact h.st⟩
theorem chn_trim_fine {c : Chn} {a : Int} {m : Nat} {n : Int} (h : c.l.length ≤ m ∧ c.last ≤ n ∧ ∀ v ∈ c.l, v.row.length ≤ 4000) : (c.trim a).l.length ≤ m ∧ (c.trim a).last ≤ n ∧ ∀ v ∈ (c.trim a).l, v.row.length ≤ 4000 := by
  have hl : (c.trim a).l = c.l.drop (c.cut a) ∧ (c.trim a).last = c.last := ⟨rfl, rfl⟩
  rw [hl.1, hl.2]
  exact ⟨by rw [List.length_drop]; omega, h.2.1, fun v hv => h.2.2 v (List.mem_of_mem_drop hv)⟩
theorem Sto.Small.trim {s : Sto} {m : Nat} (h : s.Small m) (a : Int) : (s.trim a).Small m := by
  refine ⟨h.now0, h.now1, ?_, fun p hp => ?_, fun p hp => ?_⟩
  · show (s.kc.map _).length ≤ m
    rw [List.length_map]; exact h.keys
  · obtain ⟨q, hq, rfl⟩ := List.mem_map.1 hp
    exact h.ksz q hq
  · obtain ⟨q, hq, rfl⟩ := List.mem_map.1 hp
    exact chn_trim_fine (h.chains q hq)
theorem linkD_size (a b : ByteArray) (p : Bs) : (linkD a b p).size = 32 := sha_size _
theorem Led.Ok.applied {L : Led} {m : Nat} (h : L.Ok m) (hr : Rising (L.s.kc.map Prod.fst)) {ws : List Wr} (hright : right (L.s.now + 1) ws = true) : (L.applied ws).Ok (m + 64) := by
  have hl64 : ws.length ≤ 64 := by unfold right at hright; simp only [Bool.and_eq_true, decide_eq_true_eq] at hright; exact hright.2.2
  obtain ⟨d1, d2, d3, d4, d5⟩ := h.st _ (last_mem h.sts.1)
  obtain ⟨g1, g2⟩ := growT_ok d4 ws
  refine ⟨h.tabs, Sto.Small.applied h.sto hr hright, h.next0, by have := h.next1; show L.next ≤ ((m + 64 : Nat) : Int); omega, h.ids, h.once, fun x hx => ?_, h.ws, h.rise, ?_, fun x hx => ?_⟩
  · have := h.base x hx
    show 0 ≤ x.base ∧ x.base ≤ L.s.now + 1
    omega
  · show 1 ≤ (Led.keep6 (L.sts ++ [L.grown ws])).length ∧ (Led.keep6 (L.sts ++ [L.grown ws])).length ≤ 6
    unfold Led.keep6
    rw [List.length_drop, List.length_append, List.length_singleton]
    omega
  · have hx' : x ∈ L.sts ++ [L.grown ws] := List.mem_of_mem_drop hx
    rcases List.mem_append.1 hx' with hx' | hx'
    · obtain ⟨a, b, c, d, e⟩ := h.st x hx'
      exact ⟨a, b, c, d, by omega⟩
    · obtain rfl := List.mem_singleton.1 hx'
      exact ⟨linkD_size _ _ _, d1, sha_size _, g1, by show (Led.growT L.last.t ws).len ≤ 64 * (m + 64); omega⟩
theorem Led.Ok.publish {L : Led} {m : Nat} (h : L.Ok m) (hr : Rising (L.s.kc.map Prod.fst)) {ws : List Wr} (ids : List Int) (hright : ws ≠ [] → right (L.s.now + 1) ws = true) : (L.publish ws ids).Ok (m + 64) := by
  unfold Led.publish
  by_cases hw : ws = []
  · rw [if_pos hw]; exact (h.dropped ids).mono (by omega)
  · rw [if_neg hw]
    have h1 := (h.applied hr (hright hw)).dropped ids
    exact ⟨h1.tabs, h1.sto.trim _, h1.next0, h1.next1, h1.ids, h1.once, h1.base, h1.ws, h1.rise, h1.sts, h1.st⟩
end Go.Proofs.YtlmhphejgahfbaaGreatDoor
/- A ledger that the call itself has made, in some colours: what its methods do. -/
set_option linter.unusedVariables false
set_option linter.unusedSimpArgs false
namespace Go.Proofs.YtlmhphejgahfbaaGreatDoor
open Go.RowKit

/-- In w' lies a ledger all of whose blocks are new since w; what was there is as it was; K: blocks that its methods leave as they are. -/
def LedS (K : Nat → Prop) (w w' : World) (lb : Nat) (L : Led) : Prop := ∃ col, LedAt w' col lb L ∧ (∀ i, i < w.heap.size → col i = 0) ∧ (∀ i, K i → i < w'.heap.size ∧ ¬ MutC (col i)) ∧ Fr No w w'
/-- What its methods may write. -/
def Mine (K : Nat → Prop) (w : World) : Nat → Prop := fun i => w.heap.size ≤ i ∧ ¬ K i
section
variable {w w' W : World} {lb : Nat} {L : Led} {m : Nat} {K : Nat → Prop}
theorem LedS.more (h : LedS K w w' lb L) (f : Fr No w' W) : LedS (fun i => K i ∨ (w'.heap.size ≤ i ∧ i < W.heap.size)) w W lb L := by
  obtain ⟨col, h1, h2, h5, h3⟩ := h
  refine ⟨ext col w'.heap.size 9, (h1.recol (col' := ext col w'.heap.size 9) fun i hi => ext_old col hi).fr0 f, fun i hi => by rw [ext_old col (Nat.lt_of_lt_of_le hi h3.size)]; exact h2 i hi, fun i hi => ?_, h3.next f (fun _ _ f => f.elim)⟩
  rcases hi with hi | hi
  · exact ⟨Nat.lt_of_lt_of_le (h5 i hi).1 f.size, by rw [ext_old col (h5 i hi).1]; exact (h5 i hi).2⟩
  · exact ⟨hi.2, by rw [ext_new col hi.1]; unfold MutC; omega⟩
theorem LedS.fr0 (h : LedS K w w' lb L) (f : Fr No w' W) : LedS K w W lb L := by
  obtain ⟨col, h1, h2, h5, h3⟩ := h
  exact ⟨col, h1.fr0 f, h2, fun i hi => ⟨Nat.lt_of_lt_of_le (h5 i hi).1 f.size, (h5 i hi).2⟩, h3.next f (fun _ _ f => f.elim)⟩
theorem LedS.mono {K' : Nat → Prop} (h : LedS K w w' lb L) (k : ∀ i, K' i → i < w'.heap.size → K i) (k' : ∀ i, K' i → i < w'.heap.size) : LedS K' w w' lb L := by
  obtain ⟨col, h1, h2, h5, h3⟩ := h
  exact ⟨col, h1, h2, fun i hi => h5 i (k i hi (k' i hi)), h3⟩
theorem LedS.fr (h : LedS K w w' lb L) : Fr No w w' := by obtain ⟨col, h1, h2, h5, h3⟩ := h; exact h3
theorem LedS.kat (h : LedS K w w' lb L) : KAt w' := by obtain ⟨col, ⟨_, _, _, _, _, _, hP⟩, h2, h5, h3⟩ := h; exact hP.kat
/-- Behind a method. -/
theorem ledS_next {L' : Led} {w'' : World} {col col' : Nat → Nat} (h2 : ∀ i, i < w.heap.size → col i = 0) (h5 : ∀ i, K i → i < w'.heap.size ∧ ¬ MutC (col i)) (h3 : Fr No w w') (hk : ∀ i, i < w'.heap.size → col' i = col i) (hL' : LedAt w'' col' lb L') {S : Nat → Prop} (hS : ∀ i, S i → MutC (col i)) (hf : Fr S w' w'') :
    LedS K w w'' lb L' ∧ Fr (Mine K w) w' w'' :=
  ⟨⟨col', hL', fun i hi => by rw [hk i (Nat.lt_of_lt_of_le hi h3.size)]; exact h2 i hi, fun i hi => ⟨Nat.lt_of_lt_of_le (h5 i hi).1 hf.size, by rw [hk i (h5 i hi).1]; exact (h5 i hi).2⟩, h3.next hf (fun i hi e => by have := hS i e; rw [h2 i hi] at this; unfold MutC at this; omega)⟩,
   hf.mono fun i hi hs => ⟨by
      rcases Nat.lt_or_ge i w.heap.size with h | h
      · have := hS i hs; rw [h2 i h] at this; unfold MutC at this; omega
      · exact h, fun hK => (h5 i hK).2 (hS i hs)⟩⟩
theorem ledS_group {ids : List Int} {Ai : Option Addr} {ci n : Nat} {R : Nat → Prop} (h : LedS K w w' lb L) (hok : L.Ok m) (hm : m ≤ 4000) (hids : IdsAt w' R Ai ids) (hR : ∀ i, R i → K i) (hn : n = ids.length) (hci : n ≤ ci) (h3 : n ≤ 3) :
    Calls Tryz.prog 15 #[.pointer (some ⟨lb, 0, none⟩), .slice Ai n ci] w' fun e w'' => ∃ Ao co ys, e = .returned (.slice Ao n co) ∧ Ow (Ty.int .i64) 24 w'' (fun i => w'.heap.size ≤ i) (.slice Ao n co) (L.formN ids n).1 ∧
      ys.Perm (L.formN ids n).2 ∧ Rising (ys.map Wr.key) ∧ LedS K w w'' lb (L.publish ys ids) ∧ Fr (Mine K w) w' w'' := by
  obtain ⟨col, h1, h2, h5, h4⟩ := h
  refine (led_group h1 hok hm hids (fun i hi hl e => (h5 i (hR i hi)).2 (by unfold MutC; omega)) hn hci h3).mono ?_
  rintro e w'' ⟨Ao, co, ys, rfl, ho, hp, hr, ⟨col', hk, hL'⟩, hf'⟩
  exact ⟨Ao, co, ys, rfl, ho, hp, hr, ledS_next h2 h5 h4 hk hL' (fun i hi => by unfold MutC; omega) hf'⟩
theorem ledS_now (h : LedS K w w' lb L) : Calls Tryz.prog 20 #[.pointer (some ⟨lb, 0, none⟩)] w' fun e w'' => e = .returned (.int .i64 L.s.now) ∧ w'' = w' := by
  obtain ⟨col, h1, h2, h4⟩ := h
  exact led_now h1
theorem ledS_open (h : LedS K w w' lb L) (id : Int) : Calls Tryz.prog 25 #[.pointer (some ⟨lb, 0, none⟩), .int .i64 id] w' fun e w'' => e = .returned (.bool (L.find id).isSome) ∧ w'' = w' := by
  obtain ⟨col, h1, h2, h4⟩ := h
  exact led_open_at h1 id
theorem ledS_begin (h : LedS K w w' lb L) (hok : L.Ok m) (hm : m ≤ 4000) : Calls Tryz.prog 11 #[.pointer (some ⟨lb, 0, none⟩)] w' fun e w'' => e = .returned (.int .i64 (L.next + 1)) ∧ LedS K w w'' lb L.begin_ ∧ Fr (Mine K w) w' w'' := by
  obtain ⟨col, h1, h2, h5, h4⟩ := h
  refine (led_begin_at h1 hok hm).mono ?_
  rintro e w'' ⟨rfl, ⟨col', hk, hL'⟩, hf'⟩
  exact ⟨rfl, ledS_next h2 h5 h4 hk hL' (fun i hi => by unfold MutC; omega) hf'⟩
theorem ledS_put {id : Int} {x : LTx} {t k n c' : Nat} {R : Nat → Prop} {B : Option Addr} {row : List Val} (h : LedS K w w' lb L) (hok : L.Ok m) (hx : L.find id = some x) (hR : RowFits L.tabs t k row) (hr : Rd tVal w' R B row) (hn : n = row.length) (hc : n ≤ c') :
    Calls Tryz.prog 13 #[.pointer (some ⟨lb, 0, none⟩), .int .i64 id, .int .i64 (t : Int), .slice B n c'] w' fun e w'' =>
      e = .returned (.int .i64 (wwrite x.ws (rowW t k row)).2) ∧ LedS K w w'' lb (L.setTx id (wwrite x.ws (rowW t k row)).1) ∧ Fr (Mine K w) w' w'' := by
  obtain ⟨col, h1, h2, h5, h4⟩ := h
  refine (led_put h1 (fun y hy => by have := (hok.ids y hy).1; omega) hx ((hok.ws x (find_id hx).2).1) hR hr hn hc).mono ?_
  rintro e w'' ⟨rfl, ⟨col', hk, hL'⟩, hf'⟩
  exact ⟨rfl, ledS_next h2 h5 h4 hk hL' (fun i hi => by have h6 := txCol_ge id; unfold MutC; omega) hf'⟩
theorem ledS_digests (h : LedS K w w' lb L) (hl : L.sts.length ≤ 100) : Calls Tryz.prog 17 #[.pointer (some ⟨lb, 0, none⟩)] w' fun e w'' => ∃ Ao co, e = .returned (.slice Ao L.sts.length co) ∧ Ow Ty.str 9 w'' (fun i => w'.heap.size ≤ i) (.slice Ao L.sts.length co) (L.sts.map Stt.dig) ∧ Fr No w' w'' := by
  obtain ⟨col, h1, h2, h4⟩ := h
  exact led_digests h1 hl
/-- A new one; the tables lie among K. -/
theorem ledS_new {F : Nat → Prop} {A : Option Addr} {c n : Nat} {tabs : List Tab} (hf : Fr No w w') (hR : Rd tTab w' F A tabs) (hF : ∀ i, F i → w.heap.size ≤ i) (g : TabsOk tabs) (hn : n = tabs.length) (hc : n ≤ c) (hk : KAt w) :
    Calls Tryz.prog 8 #[.slice A n c] w' fun e w'' => ∃ lb, e = .returned (.tuple #[.pointer (some ⟨lb, 0, none⟩), .int .i64 0]) ∧ LedS (fun i => i < w'.heap.size) w w'' lb (Led.new tabs) ∧ Fr No w' w'' := by
  subst hn
  refine (ledger_new2 (c := c) hR g (hk.fr0 hf)).mono ?_
  rintro e w'' ⟨lb, rfl, hN, hf2⟩
  have hf02 : Fr No w w'' := hf.next hf2 (fun _ _ f => f.elim)
  obtain ⟨col, h1, h2, h6⟩ := newAt_led6 (w0 := w) (w1 := w') (F := fun i => F i ∧ i < w'.heap.size) hN ((hR.mono (G := fun i => F i ∧ i < w'.heap.size) fun i hi hl => ⟨hi, hl⟩).fr0 hf2) (fun i hi => ⟨hF i hi.1, hi.2⟩) hc hk (hk.fr0 hf02) hf.size
  refine ⟨lb, rfl, ⟨col, h1, h2, fun i hi => ⟨Nat.lt_of_lt_of_le hi hf2.size, ?_⟩, hf02⟩, hf2⟩
  rcases Nat.lt_or_ge i w.heap.size with h | h
  · rw [h2 i h]; unfold MutC; omega
  · rw [h6 i h hi]; unfold MutC; omega
end
theorem ids_two {w : World} {g : Nat} {a b : Int} {t : TypeId} {R : Nat → Prop} (hR : R g) (h : w.heap[g]? = some (.cells #[.int .i64 a, .int .i64 b] t (0, 0))) : IdsAt w R (some ⟨g, 0, none⟩) [a, b] := by
  refine ⟨(show 2 ≤ 1000 by decide), .inr ⟨g, 0, rfl, hR, fun j hj => ?_⟩⟩
  have hj' : j < 2 := hj
  have h0 := blk_cell h 0
  have h1 := blk_cell h 1
  have : j = 0 ∨ j = 1 := by omega
  rcases this with rfl | rfl
  · simpa using h0
  · simpa using h1
theorem ids_one' {w : World} {g : Nat} {a : Int} {t : TypeId} {R : Nat → Prop} (hR : R g) (h : w.heap[g]? = some (.cells #[.int .i64 a] t (0, 0))) : IdsAt w R (some ⟨g, 0, none⟩) [a] := by
  refine ⟨(show 1 ≤ 1000 by decide), .inr ⟨g, 0, rfl, hR, fun j hj => ?_⟩⟩
  have hj' : j < 1 := hj
  have h0 := blk_cell h 0
  obtain rfl : j = 0 := by omega
  simpa using h0
theorem rd_ints2 {w : World} {g : Nat} {a b : Int} {t : TypeId} (h : w.heap[g]? = some (.cells #[.int .i64 a, .int .i64 b] t (0, 0))) : Rd (Ty.int .i64) w (fun i => i = g) (some ⟨g, 0, none⟩) [a, b] :=
  ⟨by simp, [.int .i64 a, .int .i64 b], ⟨[_], [_], rfl, rfl, [_], [], rfl, rfl, rfl⟩, fun j u hu => ⟨_, rfl, rfl, by rw [add0, blk_cell h, ← Array.getElem?_toList]; exact hu⟩⟩
theorem rd_ints1 {w : World} {g : Nat} {a : Int} {t : TypeId} (h : w.heap[g]? = some (.cells #[.int .i64 a] t (0, 0))) : Rd (Ty.int .i64) w (fun i => i = g) (some ⟨g, 0, none⟩) [a] :=
  ⟨by simp, [.int .i64 a], ⟨[_], [], rfl, rfl, rfl⟩, fun j u hu => ⟨_, rfl, rfl, by rw [add0, blk_cell h, ← Array.getElem?_toList]; exact hu⟩⟩
end Go.Proofs.YtlmhphejgahfbaaGreatDoor
