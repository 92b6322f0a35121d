/- Texts of this claim, one behind the other: Sha4, Wait. -/
import Derived.Test.YtlmhphejgahfbaaGreatDoorMrowledgerdeletes2
import Derived.Deep.DeepCutAuto
import Derived.ArgAppend
/- SHA-256: a block is eaten. -/
set_option linter.unusedVariables false
set_option linter.unusedSimpArgs false
namespace Go.Proofs.YtlmhphejgahfbaaGreatDoor
open Go.RowKit

/-- A hasher's block. -/
structure HB (w : World) (hb : Nat) (S : Nat → W32) (wv nv : Value) : Prop where
  blk : ∃ cs, w.heap[hb]? = some (.cells cs 235 (0, 0)) ∧ cs.size = 10 ∧ (∀ j, j < 8 → cs[j]? = some (.int .u32 (U (S j)))) ∧ cs[8]? = some wv ∧ cs[9]? = some nv
theorem HB.lt {w : World} {hb : Nat} {S : Nat → W32} {wv nv : Value} (h : HB w hb S wv nv) : hb < w.heap.size := by obtain ⟨cs, h1, _⟩ := h.blk; exact blk_lt h1
theorem HB.fr {F : Nat → Prop} {w w' : World} {hb : Nat} {S : Nat → W32} {wv nv : Value} (h : HB w hb S wv nv) (f : Fr F w w') (hn : ¬ F hb) : HB w' hb S wv nv := by
  obtain ⟨cs, h1, h2⟩ := h.blk
  exact ⟨cs, f.blk h1 hn, h2⟩
theorem HB.fr0 {w w' : World} {hb : Nat} {S : Nat → W32} {wv nv : Value} (h : HB w hb S wv nv) (f : Fr No w w') : HB w' hb S wv nv := h.fr f (fun f => f)
theorem HB.cell {w : World} {hb : Nat} {S : Nat → W32} {wv nv : Value} (h : HB w hb S wv nv) {j : Nat} (hj : j < 8) : w.cell? ⟨hb, j, none⟩ = some (.int .u32 (U (S j))) := by
  obtain ⟨cs, h1, h2, h3, _⟩ := h.blk
  rw [blk_cell h1]; exact h3 j hj
theorem HB.wait {w : World} {hb : Nat} {S : Nat → W32} {wv nv : Value} (h : HB w hb S wv nv) : w.cell? ⟨hb, 8, none⟩ = some wv := by
  obtain ⟨cs, h1, h2, h3, h4, _⟩ := h.blk
  rw [blk_cell h1]; exact h4
theorem HB.num {w : World} {hb : Nat} {S : Nat → W32} {wv nv : Value} (h : HB w hb S wv nv) : w.cell? ⟨hb, 9, none⟩ = some nv := by
  obtain ⟨cs, h1, h2, h3, _, h4⟩ := h.blk
  rw [blk_cell h1]; exact h4
theorem HB.free {w : World} {hb : Nat} {S : Nat → W32} {wv nv : Value} (h : HB w hb S wv nv) (j : Nat) : w.frozen? ⟨hb, j, none⟩ = false := by
  obtain ⟨cs, h1, _⟩ := h.blk
  exact blk_frozen h1 j
theorem HB.setW {w : World} {hb : Nat} {S : Nat → W32} {wv nv : Value} (h : HB w hb S wv nv) {i : Nat} (hi : i < 8) (v : W32) : HB (w.setCell ⟨hb, i, none⟩ (.int .u32 (U v))) hb (upd S i v) wv nv := by
  obtain ⟨cs, h1, h2, h3, h4, h5⟩ := h.blk
  refine ⟨_, blk_set h1 _ _, by simpa using h2, fun j hj => ?_, ?_, ?_⟩
  · rw [Array.getElem?_setIfInBounds]
    unfold upd
    by_cases e : j = i
    · subst e; rw [if_pos rfl, if_pos (by omega), if_pos rfl]
    · rw [if_neg (by omega), if_neg e]; exact h3 j hj
  · rw [Array.getElem?_setIfInBounds, if_neg (by omega)]; exact h4
  · rw [Array.getElem?_setIfInBounds, if_neg (by omega)]; exact h5
theorem HB.setWait {w : World} {hb : Nat} {S : Nat → W32} {wv nv : Value} (h : HB w hb S wv nv) (v : Value) : HB (w.setCell ⟨hb, 8, none⟩ v) hb S v nv := by
  obtain ⟨cs, h1, h2, h3, h4, h5⟩ := h.blk
  refine ⟨_, blk_set h1 _ _, by simpa using h2, fun j hj => ?_, ?_, ?_⟩
  · rw [Array.getElem?_setIfInBounds, if_neg (by omega)]; exact h3 j hj
  · rw [Array.getElem?_setIfInBounds, if_pos rfl, if_pos (by omega)]
  · rw [Array.getElem?_setIfInBounds, if_neg (by omega)]; exact h5
theorem HB.setNum {w : World} {hb : Nat} {S : Nat → W32} {wv nv : Value} (h : HB w hb S wv nv) (v : Value) : HB (w.setCell ⟨hb, 9, none⟩ v) hb S wv v := by
  obtain ⟨cs, h1, h2, h3, h4, h5⟩ := h.blk
  refine ⟨_, blk_set h1 _ _, by simpa using h2, fun j hj => ?_, ?_, ?_⟩
  · rw [Array.getElem?_setIfInBounds, if_neg (by omega)]; exact h3 j hj
  · rw [Array.getElem?_setIfInBounds, if_neg (by omega)]; exact h4
  · rw [Array.getElem?_setIfInBounds, if_pos rfl, if_pos (by omega)]

theorem run_load_h {w : World} {hb : Nat} {S : Nat → W32} {wv nv : Value} (h : HB w hb S wv nv) : (Instr.loadAt 233 (.pointer (some ⟨hb, 0, none⟩))).run Tryz.prog w = .ok (.agg #[.int .u32 (U (S 0)), .int .u32 (U (S 1)), .int .u32 (U (S 2)), .int .u32 (U (S 3)), .int .u32 (U (S 4)), .int .u32 (U (S 5)), .int .u32 (U (S 6)), .int .u32 (U (S 7))]) w := by
  have h1 := run_loadCells_list (P := Tryz.prog) w ⟨hb, 0, none⟩ [.int .u32 (U (S 0)), .int .u32 (U (S 1)), .int .u32 (U (S 2)), .int .u32 (U (S 3)), .int .u32 (U (S 4)), .int .u32 (U (S 5)), .int .u32 (U (S 6)), .int .u32 (U (S 7))] (fun j v hv => by
    rw [add0]
    match j, hv with
    | 0, hv | 1, hv | 2, hv | 3, hv | 4, hv | 5, hv | 6, hv | 7, hv => rw [h.cell (by omega)]; exact hv
    | n + 8, hv => simp at hv)
  have hl : ([.int .u32 (U (S 0)), .int .u32 (U (S 1)), .int .u32 (U (S 2)), .int .u32 (U (S 3)), .int .u32 (U (S 4)), .int .u32 (U (S 5)), .int .u32 (U (S 6)), .int .u32 (U (S 7))] : List Value).length = 8 := rfl
  rw [hl] at h1
  simp only [Instr.loadAt, loadVar, Instr.sureAddr, Sem.run_bind, Sem.run_pure, Result.andThen_ok, Tryz.isAgg233, Tryz.sizeOf233, if_true, h1]

theorem wpList_load_at {P : Program} {ops : Array Oper} {rest : List Oper} {o : Oper} {a : Act} {w : World} {Q : Exit → Act → World → Prop} (hgd : o.guard = none) (ty : TypeId) (x : Operand) (ho : o.op = .load ty x) {ad : Addr} {v : Value} (hx : a.eval x = .pointer (some ad))
    (hr : (Instr.loadAt ty (.pointer (some ad))).run P w = .ok v w) (h : wpList P ops Q rest (a.put o.dst v) w) : wpList P ops Q (o :: rest) a w := by
  refine wpList_plain hgd fun K hK => ?_
  unfold Oper.wp
  simp only [execOp, ho, hx, Sem.run_bind, Sem.run_pure, Result.andThen_ok, hr]
  exact hK _ _ h

theorem Words.congr {w : World} {b o n : Nat} {R R' : Nat → W32} (h : Words w b o n R) (k : ∀ j, j < n → R j = R' j) : Words w b o n R' := by
  obtain ⟨cs, tt, hb, h1, hc⟩ := h.blk
  exact ⟨cs, tt, hb, h1, fun j hj => by rw [← k j hj]; exact hc j hj⟩
theorem HB.congr {w : World} {hb : Nat} {S S' : Nat → W32} {wv nv : Value} (h : HB w hb S wv nv) (k : ∀ j, j < 8 → S j = S' j) : HB w hb S' wv nv := by
  obtain ⟨cs, h1, h2, h3, h4⟩ := h.blk
  exact ⟨cs, h1, h2, fun j hj => by rw [← k j hj]; exact h3 j hj, h4⟩
theorem rot_any (x y : W32) (k : Int) (r : Nat) (h : (k, r) ∈ turns) (hy : rr x r = y) : ∀ w : World, Calls Tryz.prog 204 #[.int .u32 (U x), .int .i64 k] w fun e w' => e = .returned (.int .u32 (U y)) ∧ ∃ m, w' = w.drewN m := by
  subst hy
  exact fun w => (rot_ok x k r h w).mono fun e w' ⟨h1, h2⟩ => ⟨h1, 0, h2⟩
theorem spread_any (x l y : W32) (a b : Int) (m n : Nat) (ha : (-a, m) ∈ turns) (hb : (-b, n) ∈ turns) (h1 : IntKind.i64.wrap (-a) = -a) (h2 : IntKind.i64.wrap (-b) = -b) (hy : rr x m ^^^ rr x n ^^^ l = y) : ∀ w : World, Calls Tryz.prog 203 #[.int .u32 (U x), .int .i64 a, .int .i64 b, .int .u32 (U l)] w fun e w' => e = .returned (.int .u32 (U y)) ∧ ∃ m, w' = w.drewN m := by
  subst hy
  exact fun w => (spread_ok x l a b m n ha hb h1 h2 w).mono fun e w' ⟨h1, h2⟩ => ⟨h1, 0, h2⟩

/-- The rounds of a block. -/
def ringAt (p : Bs) : Nat → (Nat → W32)
  | 0 => inAll (fun _ => 0) 0 p
  | k + 1 => ringNext (ringAt p k) k
def stAt (H : Nat → W32) (p : Bs) : Nat → (Nat → W32)
  | 0 => H
  | k + 1 => rStep (stAt H p k) (Kc k) (wordAt (ringAt p k) k)
def eatS (H : Nat → W32) (p : Bs) : Nat → W32 := fun j => H j + stAt H p 64 j

set_option maxHeartbeats 4000000 in
set_option maxRecDepth 100000 in
theorem eat_ok {w : World} {F : Nat → Prop} {hb c : Nat} {A : Option Addr} {p : Bs} {S0 : Nat → W32} {wv nv : Value} (h : Rd Ty.u8 w F A p) (hp : p.length = 64) (hk : KAt w) (hH : HB w hb S0 wv nv) (hF : ¬ F hb) (hgb : hb ≠ 0) :
    Calls Tryz.prog 159 #[.pointer (some ⟨hb, 0, none⟩), .slice A 64 c] w fun e w' => e = .returned (.tuple #[]) ∧ HB w' hb (eatS S0 p) wv nv ∧ Fr (fun k => k = hb) w w' := by
  have hlh := hH.lt
  have H := Lib.hid (And.intro h (And.intro hk (And.intro hH hF)))
  have hp64 : ((64 : Nat) : Int) = 64 := rfl
  clear h hk hH hF
  go_enter Tryz.func159, Tryz.ntmps159
  go_wp2_with fail
  obtain ⟨W0, hW0⟩ : ∃ W0, W0 = w.alloc (.cells #[.int .u32 0, .int .u32 0, .int .u32 0, .int .u32 0, .int .u32 0, .int .u32 0, .int .u32 0, .int .u32 0, .int .u32 0, .int .u32 0, .int .u32 0, .int .u32 0, .int .u32 0, .int .u32 0, .int .u32 0, .int .u32 0] 287) := ⟨_, rfl⟩
  have hw0 : Words W0 w.heap.size 0 16 (fun _ => 0) := by
    rw [hW0]
    refine ⟨_, _, heap_alloc_new w _, by decide, fun j hj => ?_⟩
    have : ∀ j, j < 16 → (#[Value.int .u32 0, .int .u32 0, .int .u32 0, .int .u32 0, .int .u32 0, .int .u32 0, .int .u32 0, .int .u32 0, .int .u32 0, .int .u32 0, .int .u32 0, .int .u32 0, .int .u32 0, .int .u32 0, .int .u32 0, .int .u32 0] : Array Value)[j]? = some (.int .u32 0) := by
      intro j hj
      match j, hj with
      | 0, _ | 1, _ | 2, _ | 3, _ | 4, _ | 5, _ | 6, _ | 7, _ | 8, _ | 9, _ | 10, _ | 11, _ | 12, _ | 13, _ | 14, _ | 15, _ => rfl
      | n + 16, h => exact absurd h (by omega)
    rw [Nat.zero_add, this j hj]
    rfl
  have hf0 : Fr No w W0 := by rw [hW0]; exact (Fr.refl No w).alloc _
  have HW0 := Lib.hid (And.intro hw0 hf0)
  rw [← hW0]
  clear hW0 hw0 hf0
  go_loopw [15] (fun i wr => ∃ k : Nat, k ≤ 64 ∧ i = .int .i64 k ∧ Hid (Words wr w.heap.size 0 16 (inAll (fun _ => 0) 0 (p.take k)) ∧ Fr No w wr)) (fun i _ => 64 - (intOf i).toNat)
  case atStart => exact ⟨0, by omega, rfl, HW0.out⟩
  case round =>
    obtain ⟨k, hk, rfl, I⟩ := hrel
    have hk0 : (0 : Int) ≤ (k : Int) := Int.natCast_nonneg _
    by_cases hlt : k < 64
    · have hk1 : (k : Int) < 64 := by omega
      obtain ⟨ad, rfl, x0⟩ := u8_in (H.out.1.fr0 I.out.2) (i := k) (by omega)
      have hstep : inAll (fun _ => 0) 0 (p.take (k + 1)) = inB1 (inAll (fun _ => 0) 0 (p.take k)) k (p[k]'(by omega)) := by
        rw [List.take_succ_eq_append_getElem (by omega), inAll_snoc, List.length_take, Nat.min_eq_left (by omega), Nat.zero_add]
      obtain ⟨k4, hk4⟩ : ∃ k4, k / 4 = k4 := ⟨_, rfl⟩
      have l4 : k4 < 16 := by omega
      have l4i : (k4 : Int) < 16 := by omega
      have n4i : (0 : Int) ≤ (k4 : Int) := Int.natCast_nonneg _
      have d4 : (k : Int) / 4 = (k4 : Int) := by omega
      have d4t : (k : Int).tdiv 4 = (k4 : Int) := by rw [Int.tdiv_eq_ediv_of_nonneg (by omega)]; exact d4
      have c4 := I.out.1.cell l4
      rw [Nat.zero_add] at c4
      have z4 := I.out.1.free k4
      have a4 := add0 w.heap.size k4
      obtain ⟨b, hb'⟩ : ∃ b, p[k]'(by omega) = b := ⟨_, rfl⟩
      rw [hb'] at x0 hstep
      rw [← b32_U] at x0
      obtain ⟨bb, hbb⟩ : ∃ bb, b32 b = bb := ⟨_, rfl⟩
      rw [hbb] at x0
      have hst : inB1 (inAll (fun _ => 0) 0 (p.take k)) k b = upd (inAll (fun _ => 0) 0 (p.take k)) k4 ((inAll (fun _ => 0) 0 (p.take k) k4 <<< 8) ||| bb) := by unfold inB1; rw [hk4, hbb]
      rw [hst] at hstep
      have hset := I.out.1.set l4 ((inAll (fun _ => 0) 0 (p.take k) k4 <<< 8) ||| bb)
      rw [Nat.zero_add] at hset
      rw [← hstep] at hset
      obtain ⟨x, hx⟩ : ∃ x, inAll (fun _ => 0) 0 (p.take k) k4 = x := ⟨_, rfl⟩
      rw [hx] at c4 hset
      have q8 := shift_shl x 8 8 rfl (by decide)
      have qo := U_or (x <<< 8) bb
      have qw := U_wrap bb
      have HS := Lib.hid (And.intro hset I.out.2)
      clear hk4 hst hstep hset hx hb' hbb
      go_wp2_with fail
      go_roundw
      case rel => exact ⟨k + 1, by omega, by go_num, HS.out.1, HS.out.2.set _ (.inr (Nat.le_refl _)) _⟩
      case measure => simp [intOf]; omega
    · obtain rfl : k = 64 := by omega
      have hring := I.out.1
      rw [List.take_of_length_le (by omega)] at hring
      have hwr : Fr No w wr := I.out.2
      have hB := H.out.2.2.1.fr0 hwr
      have g0 := hB.cell (j := 0) (by decide)
      have g1 := hB.cell (j := 1) (by decide)
      have g2 := hB.cell (j := 2) (by decide)
      have g3 := hB.cell (j := 3) (by decide)
      have g4 := hB.cell (j := 4) (by decide)
      have g5 := hB.cell (j := 5) (by decide)
      have g6 := hB.cell (j := 6) (by decide)
      have g7 := hB.cell (j := 7) (by decide)
      obtain ⟨W1, hW1⟩ : ∃ W1, W1 = wr.alloc (.cells #[.int .u32 (U (S0 0)), .int .u32 (U (S0 1)), .int .u32 (U (S0 2)), .int .u32 (U (S0 3)), .int .u32 (U (S0 4)), .int .u32 (U (S0 5)), .int .u32 (U (S0 6)), .int .u32 (U (S0 7))] 233) := ⟨_, rfl⟩
      have hf1 : Fr No wr W1 := by rw [hW1]; exact (Fr.refl No wr).alloc _
      have hs1 : Words W1 wr.heap.size 0 8 S0 := by
        rw [hW1]
        refine ⟨_, _, heap_alloc_new wr _, (by show 0 + 8 ≤ 8; decide), fun j hj => ?_⟩
        match j, hj with
        | 0, _ | 1, _ | 2, _ | 3, _ | 4, _ | 5, _ | 6, _ | 7, _ => rfl
        | n + 8, h => exact absurd h (by omega)
      obtain ⟨kv, hkv⟩ : ∃ kv, Value.agg KV = kv := ⟨_, rfl⟩
      have hlk := run_load_K ((H.out.2.1.fr0 hwr).fr0 hf1)
      have hix := fun i hi w => run_index_K (i := i) hi w
      rw [hkv] at hlk
      simp only [hkv] at hix
      rw [hW1] at hlk
      have HX := Lib.hid (And.intro hix (And.intro hs1 (And.intro (hring.fr0 hf1) (And.intro (hB.fr0 hf1) (And.intro (hwr.trans (hf1.mono fun _ _ f => f.elim)) hwr.size)))))
      have hne : w.heap.size < wr.heap.size := hring.lt
      clear hix hs1 hring hB hf1 hkv hwr
      go_wp2_with (with_reducible refine wpList_load_at rfl 162 _ rfl rfl hlk ?_)
      rw [← hW1]
      clear hW1 hlk g0 g1 g2 g3 g4 g5 g6 g7
      obtain ⟨wo, hwo⟩ : ∃ wo : World, wo = wr := ⟨_, rfl⟩
      subst hwo
      go_loopw [37] (fun i wr => ∃ k : Nat, k ≤ 64 ∧ i = .int .i64 k ∧ Hid (Words wr w.heap.size 0 16 (ringAt p k) ∧ Words wr wo.heap.size 0 8 (stAt S0 p k) ∧ HB wr hb S0 wv nv ∧ Fr No w wr)) (fun i _ => 64 - (intOf i).toNat)
      case atStart => exact ⟨0, by omega, rfl, HX.out.2.2.1, HX.out.2.1, HX.out.2.2.2.1, HX.out.2.2.2.2.1⟩
      case round =>
        obtain ⟨k, hk, rfl, I⟩ := hrel
        have hk0 : (0 : Int) ≤ (k : Int) := Int.natCast_nonneg _
        by_cases hlt : k < 64
        · have hk1 : (k : Int) < 64 := by omega
          have hki := fun w => HX.out.1 k hlt w
          obtain ⟨s0, hs0⟩ : ∃ x, stAt S0 p k 0 = x := ⟨_, rfl⟩
          obtain ⟨s1, hs1⟩ : ∃ x, stAt S0 p k 1 = x := ⟨_, rfl⟩
          obtain ⟨s2, hs2⟩ : ∃ x, stAt S0 p k 2 = x := ⟨_, rfl⟩
          obtain ⟨s3, hs3⟩ : ∃ x, stAt S0 p k 3 = x := ⟨_, rfl⟩
          obtain ⟨s4, hs4⟩ : ∃ x, stAt S0 p k 4 = x := ⟨_, rfl⟩
          obtain ⟨s5, hs5⟩ : ∃ x, stAt S0 p k 5 = x := ⟨_, rfl⟩
          obtain ⟨s6, hs6⟩ : ∃ x, stAt S0 p k 6 = x := ⟨_, rfl⟩
          obtain ⟨s7, hs7⟩ : ∃ x, stAt S0 p k 7 = x := ⟨_, rfl⟩
          have c0 := I.out.2.1.cell (j := 0) (by decide)
          have z0 := I.out.2.1.free 0
          have c1 := I.out.2.1.cell (j := 1) (by decide)
          have z1 := I.out.2.1.free 1
          have c2 := I.out.2.1.cell (j := 2) (by decide)
          have z2 := I.out.2.1.free 2
          have c3 := I.out.2.1.cell (j := 3) (by decide)
          have z3 := I.out.2.1.free 3
          have c4 := I.out.2.1.cell (j := 4) (by decide)
          have z4 := I.out.2.1.free 4
          have c5 := I.out.2.1.cell (j := 5) (by decide)
          have z5 := I.out.2.1.free 5
          have c6 := I.out.2.1.cell (j := 6) (by decide)
          have z6 := I.out.2.1.free 6
          have c7 := I.out.2.1.cell (j := 7) (by decide)
          have z7 := I.out.2.1.free 7
          rw [Nat.zero_add] at c0 c1 c2 c3 c4 c5 c6 c7
          rw [hs0] at c0
          rw [hs1] at c1
          rw [hs2] at c2
          rw [hs3] at c3
          rw [hs4] at c4
          rw [hs5] at c5
          rw [hs6] at c6
          rw [hs7] at c7
          obtain ⟨y25, hy25⟩ : ∃ x, rr s4 25 = x := ⟨_, rfl⟩
          obtain ⟨ysg, hysg⟩ : ∃ x, SG1 s4 = x := ⟨_, rfl⟩
          obtain ⟨v1, hv1⟩ : ∃ x, s7 + ysg = x := ⟨_, rfl⟩
          obtain ⟨x1, hx1⟩ : ∃ x, s5 ^^^ s6 = x := ⟨_, rfl⟩
          obtain ⟨x2, hx2⟩ : ∃ x, s4 &&& x1 = x := ⟨_, rfl⟩
          obtain ⟨x3, hx3⟩ : ∃ x, s6 ^^^ x2 = x := ⟨_, rfl⟩
          obtain ⟨v2, hv2⟩ : ∃ x, v1 + x3 = x := ⟨_, rfl⟩
          obtain ⟨kc, hkc⟩ : ∃ x, Kc k = x := ⟨_, rfl⟩
          obtain ⟨v3, hv3⟩ : ∃ x, v2 + kc = x := ⟨_, rfl⟩
          obtain ⟨wd, hwd2⟩ : ∃ x, wordAt (ringAt p k) k = x := ⟨_, rfl⟩
          obtain ⟨v4, hv4⟩ : ∃ x, v3 + wd = x := ⟨_, rfl⟩
          obtain ⟨y22, hy22⟩ : ∃ x, rr s0 22 = x := ⟨_, rfl⟩
          obtain ⟨ys0, hys0⟩ : ∃ x, SG0 s0 = x := ⟨_, rfl⟩
          obtain ⟨b1, hb1⟩ : ∃ x, s0 &&& s1 = x := ⟨_, rfl⟩
          obtain ⟨b2, hb2⟩ : ∃ x, s0 ||| s1 = x := ⟨_, rfl⟩
          obtain ⟨b3, hb3⟩ : ∃ x, s2 &&& b2 = x := ⟨_, rfl⟩
          obtain ⟨b4, hb4⟩ : ∃ x, b1 ||| b3 = x := ⟨_, rfl⟩
          obtain ⟨v5, hv5⟩ : ∃ x, ys0 + b4 = x := ⟨_, rfl⟩
          obtain ⟨v6, hv6⟩ : ∃ x, v4 + v5 = x := ⟨_, rfl⟩
          obtain ⟨v7, hv7⟩ : ∃ x, s3 + v4 = x := ⟨_, rfl⟩
          have hwd := fun w' (f : Fr No wr w') => word_ok (I.out.1.fr0 f) hlt
          simp only [hwd2] at hwd
          rw [hkc] at hki
          have dA1 := U_add s7 ysg
          rw [hv1] at dA1
          have dX1 := U_xor s5 s6
          rw [hx1] at dX1
          have dX2 := U_and s4 x1
          rw [hx2] at dX2
          have dX3 := U_xor s6 x2
          rw [hx3] at dX3
          have dA2 := U_add v1 x3
          rw [hv2] at dA2
          have dA3 := U_add v2 kc
          rw [hv3] at dA3
          have dA4 := U_add v3 wd
          rw [hv4] at dA4
          have dB1 := U_and s0 s1
          rw [hb1] at dB1
          have dB2 := U_or s0 s1
          rw [hb2] at dB2
          have dB3 := U_and s2 b2
          rw [hb3] at dB3
          have dB4 := U_or b1 b3
          rw [hb4] at dB4
          have dA5 := U_add ys0 b4
          rw [hv5] at dA5
          have dA6 := U_add v4 v5
          rw [hv6] at dA6
          have dA7 := U_add s3 v4
          rw [hv7] at dA7
          have HR25 := Lib.hid (rot_any s4 y25 (-25) 25 (by decide) hy25)
          have HSG := Lib.hid (spread_any s4 y25 ysg 6 11 6 11 (by decide) (by decide) (by decide) (by decide) (by rw [← hy25]; exact hysg))
          have HR22 := Lib.hid (rot_any s0 y22 (-22) 22 (by decide) hy22)
          have HS0 := Lib.hid (spread_any s0 y22 ys0 2 13 2 13 (by decide) (by decide) (by decide) (by decide) (by rw [← hy22]; exact hys0))
          have HWD := Lib.hid hwd
          have hT : rT (stAt S0 p k) (Kc k) (wordAt (ringAt p k) k) = v4 := by unfold rT; rw [hs4, hs5, hs6, hs7, hysg, hx1, hx2, hx3, hkc, hwd2, hv1, hv2, hv3, hv4]
          have hU : rU (stAt S0 p k) = v5 := by unfold rU; rw [hs0, hs1, hs2, hys0, hb1, hb2, hb3, hb4, hv5]
          have hnext : ∀ j, j < 8 → (upd (upd (upd (upd (upd (upd (upd (upd (stAt S0 p k) 0 v6) 1 s0) 2 s1) 3 s2) 4 v7) 5 s4) 6 s5) 7 s6) j = stAt S0 p (k + 1) j := by
            intro j hj
            show _ = rStep (stAt S0 p k) (Kc k) (wordAt (ringAt p k) k) j
            match j, hj with
            | 0, _ => show v6 = rT _ _ _ + rU _; rw [hT, hU, hv6]
            | 1, _ => exact hs0.symm
            | 2, _ => exact hs1.symm
            | 3, _ => exact hs2.symm
            | 4, _ => show v7 = stAt S0 p k 3 + rT _ _ _; rw [hT, hs3, hv7]
            | 5, _ => exact hs4.symm
            | 6, _ => exact hs5.symm
            | 7, _ => exact hs6.symm
            | n + 8, h => exact absurd h (by omega)
          have HNX := Lib.hid hnext
          have hns : wo.heap.size ≠ w.heap.size := fun e => by have := HX.out.2.2.2.2.2; omega
          clear hT hU hnext hwd hs0 hs1 hs2 hs3 hs4 hs5 hs6 hs7 hy25 hysg hv1 hx1 hx2 hx3 hv2 hkc hv3 hwd2 hv4 hy22 hys0 hb1 hb2 hb3 hb4 hv5 hv6 hv7
          go_wp2_with fail
          go_region_held3 (fun w' => w'.cell? ⟨wo.heap.size, 0, none⟩ = some (.int .u32 (U s0)) ∧ w'.cell? ⟨wo.heap.size, 1, none⟩ = some (.int .u32 (U s1)) ∧ w'.cell? ⟨wo.heap.size, 2, none⟩ = some (.int .u32 (U s2)) ∧ w'.cell? ⟨wo.heap.size, 3, none⟩ = some (.int .u32 (U s3)) ∧ w'.cell? ⟨wo.heap.size, 4, none⟩ = some (.int .u32 (U s4)) ∧ w'.cell? ⟨wo.heap.size, 5, none⟩ = some (.int .u32 (U s5)) ∧ w'.cell? ⟨wo.heap.size, 6, none⟩ = some (.int .u32 (U s6)) ∧ w'.cell? ⟨wo.heap.size, 7, none⟩ = some (.int .u32 (U s7)))
            (first
              | exact ⟨c0, c1, c2, c3, c4, c5, c6, c7⟩
              | exact ⟨q0, q1, q2, q3, q4, q5, q6, q7⟩)
            (first
              | (go_at_call 204; refine (HR25.out _).mono ?_; rintro e1 w1 ⟨rfl, m1, rfl⟩)
              | (go_at_call 203; refine (HSG.out _).mono ?_; rintro e1 w1 ⟨rfl, m1, rfl⟩)
              | (go_at_call 205; refine (HWD.out _ (by repeat (first | exact Fr.refl _ _ | apply Fr.drew | apply Fr.drewN))).mono ?_; rintro e2 w2 ⟨rfl, hw2, hf2⟩
                 have g2 : Fr (fun i => i = w.heap.size) wr w2 := Fr.trans (by repeat (first | exact Fr.refl _ _ | apply Fr.drew | apply Fr.drewN)) (hf2.mono fun _ _ e => .inl e)
                 have q0 := g2.cell c0 hns
                 have q1 := g2.cell c1 hns
                 have q2 := g2.cell c2 hns
                 have q3 := g2.cell c3 hns
                 have q4 := g2.cell c4 hns
                 have q5 := g2.cell c5 hns
                 have q6 := g2.cell c6 hns
                 have q7 := g2.cell c7 hns
                 have H2 := Lib.hid (And.intro hw2 g2)
                 clear hw2 hf2 g2))
          all_goals
            go_wp2_with fail
            go_quiet ((first
              | (go_at_call 204; exact Calls.quiet_of (HR22.out _))
              | (go_at_call 203; exact Calls.quiet_of (HS0.out _))))
            obtain ⟨w5, hw5⟩ : ∃ w5, w5 = w2.drewN nq := ⟨_, rfl⟩
            have f25 : Fr No w2 w5 := by rw [hw5]; exact (Fr.refl No w2).drewN _
            have q0 := f25.cell q0 (fun f => f)
            have q1 := f25.cell q1 (fun f => f)
            have q2 := f25.cell q2 (fun f => f)
            have q3 := f25.cell q3 (fun f => f)
            have q4 := f25.cell q4 (fun f => f)
            have q5 := f25.cell q5 (fun f => f)
            have q6 := f25.cell q6 (fun f => f)
            have q7 := f25.cell q7 (fun f => f)
            have f15 : Fr (fun i => i = w.heap.size) wr w5 := H2.out.2.trans (f25.mono fun _ _ f => f.elim)
            have k0 := I.out.2.1.fr f15 hns
            have z0 := k0.free 0
            have z1 := k0.free 1
            have z2 := k0.free 2
            have z3 := k0.free 3
            have z4 := k0.free 4
            have z5 := k0.free 5
            have z6 := k0.free 6
            have z7 := k0.free 7
            have k1 := k0.set (i := 0) (by decide) v6
            rw [Nat.zero_add] at k1
            have k2 := k1.set (i := 1) (by decide) s0
            rw [Nat.zero_add] at k2
            have k3 := k2.set (i := 2) (by decide) s1
            rw [Nat.zero_add] at k3
            have k4 := k3.set (i := 3) (by decide) s2
            rw [Nat.zero_add] at k4
            have k5 := k4.set (i := 4) (by decide) v7
            rw [Nat.zero_add] at k5
            have k6 := k5.set (i := 5) (by decide) s4
            rw [Nat.zero_add] at k6
            have k7 := k6.set (i := 6) (by decide) s5
            rw [Nat.zero_add] at k7
            have k8 := k7.set (i := 7) (by decide) s6
            rw [Nat.zero_add] at k8
            have hfs : Fr (fun i => i = wo.heap.size) w5 ((((((((w5.setCell ⟨wo.heap.size, 0, none⟩ (.int .u32 (U v6))).setCell ⟨wo.heap.size, 1, none⟩ (.int .u32 (U s0))).setCell ⟨wo.heap.size, 2, none⟩ (.int .u32 (U s1))).setCell ⟨wo.heap.size, 3, none⟩ (.int .u32 (U s2))).setCell ⟨wo.heap.size, 4, none⟩ (.int .u32 (U v7))).setCell ⟨wo.heap.size, 5, none⟩ (.int .u32 (U s4))).setCell ⟨wo.heap.size, 6, none⟩ (.int .u32 (U s5))).setCell ⟨wo.heap.size, 7, none⟩ (.int .u32 (U s6))) := Fr.set (F := fun i => i = wo.heap.size) (Fr.set (F := fun i => i = wo.heap.size) (Fr.set (F := fun i => i = wo.heap.size) (Fr.set (F := fun i => i = wo.heap.size) (Fr.set (F := fun i => i = wo.heap.size) (Fr.set (F := fun i => i = wo.heap.size) (Fr.set (F := fun i => i = wo.heap.size) (Fr.set (F := fun i => i = wo.heap.size) (Fr.refl (fun i => i = wo.heap.size) w5) ⟨wo.heap.size, 0, none⟩ (.inl rfl) _) ⟨wo.heap.size, 1, none⟩ (.inl rfl) _) ⟨wo.heap.size, 2, none⟩ (.inl rfl) _) ⟨wo.heap.size, 3, none⟩ (.inl rfl) _) ⟨wo.heap.size, 4, none⟩ (.inl rfl) _) ⟨wo.heap.size, 5, none⟩ (.inl rfl) _) ⟨wo.heap.size, 6, none⟩ (.inl rfl) _) ⟨wo.heap.size, 7, none⟩ (.inl rfl) _
            have HK := Lib.hid (And.intro (k8.congr HNX.out) (And.intro hfs (And.intro (H2.out.1.fr0 f25) f15)))
            rw [← hw5]
            clear hw5 f25 f15 k0 k1 k2 k3 k4 k5 k6 k7 k8 hfs
            go_wp2_with fail
            go_roundw
            case rel =>
              refine ⟨k + 1, by omega, by go_num, HK.out.2.2.1.fr HK.out.2.1 (fun e => hns e.symm), HK.out.1, (I.out.2.2.1.fr HK.out.2.2.2 (fun e => ?_)).fr HK.out.2.1 (fun e => ?_), (I.out.2.2.2.trans (HK.out.2.2.2.mono fun i _ e => .inr (by omega))).trans (HK.out.2.1.mono fun i _ e => .inr (by have := HX.out.2.2.2.2.2; omega))⟩
              · omega
              · have := HX.out.2.2.2.2.2; omega
            case measure => simp [intOf]; omega
        · obtain rfl : k = 64 := by omega
          have hI := I.out
          have hsz := HX.out.2.2.2.2.2
          have hne2 : wo.heap.size ≠ hb := by omega
          go_wp2_with fail
          obtain ⟨wx, hwx⟩ : ∃ wx : World, wx = wr := ⟨_, rfl⟩
          subst hwx
          go_loopw [109] (fun i wr => ∃ k : Nat, k ≤ 8 ∧ i = .int .i64 k ∧ Hid (HB wr hb (fun j => if j < k then S0 j + stAt S0 p 64 j else S0 j) wv nv ∧ Words wr wo.heap.size 0 8 (stAt S0 p 64) ∧ Fr (fun i => i = hb) w wr)) (fun i _ => 8 - (intOf i).toNat)
          case atStart => exact ⟨0, by omega, rfl, hI.2.2.1.congr (fun j hj => by simp), hI.2.1, hI.2.2.2.mono fun _ _ f => f.elim⟩
          case round =>
            obtain ⟨k, hk, rfl, J⟩ := hrel
            have hk0 : (0 : Int) ≤ (k : Int) := Int.natCast_nonneg _
            by_cases hlt : k < 8
            · have hk1 : (k : Int) < 8 := by omega
              have c1 := J.out.1.cell hlt
              have c2 := J.out.2.1.cell hlt
              have z1 := J.out.1.free k
              rw [if_neg (by omega)] at c1
              rw [Nat.zero_add] at c2
              have a1 := add0 hb k
              have a2 := add0 wo.heap.size k
              have hset := J.out.1.setW hlt (S0 k + stAt S0 p 64 k)
              obtain ⟨x, hx⟩ : ∃ x, S0 k = x := ⟨_, rfl⟩
              obtain ⟨y, hy⟩ : ∃ y, stAt S0 p 64 k = y := ⟨_, rfl⟩
              rw [hx] at c1
              rw [hy] at c2
              rw [hx, hy] at hset
              have d1 := U_add x y
              have HS := Lib.hid (And.intro hset (And.intro hx hy))
              clear hset hx hy
              go_wp2_with fail
              go_region
              all_goals
                go_wp2_with fail
                go_roundw
                case rel =>
                  refine ⟨k + 1, by omega, by go_num, (HS.out.1.fr0 ((Fr.refl No _).drew)).congr (fun j hj => ?_), (J.out.2.1.fr (S := fun i => i = hb) ((Fr.set (F := fun i => i = hb) (Fr.refl (fun i => i = hb) wr) ⟨hb, k, none⟩ (.inl rfl) _).drew) hne2), (J.out.2.2.trans ((Fr.set (F := fun i => i = hb) (Fr.refl (fun i => i = hb) wr) ⟨hb, k, none⟩ (.inl rfl) _).mono fun i _ e => .inl e)).drew⟩
                  unfold upd
                  by_cases e : j = k
                  · subst e; rw [if_pos rfl, if_pos (by omega), HS.out.2.1, HS.out.2.2]
                  · rw [if_neg e]
                    dsimp only
                    by_cases e2 : j < k
                    · rw [if_pos e2, if_pos (by omega)]
                    · rw [if_neg e2, if_neg (by omega)]
                case measure => simp [intOf]; omega
            · obtain rfl : k = 8 := by omega
              go_wp2_with fail
              go_end0
              exact ⟨rfl, J.out.1.congr (fun j hj => by rw [if_pos hj]; rfl), J.out.2.2⟩
end Go.Proofs.YtlmhphejgahfbaaGreatDoor
/- Bytes that wait: a slice of one's own, from any place in its array on. -/
set_option linter.unusedVariables false
set_option linter.unusedSimpArgs false
namespace Go.Proofs.YtlmhphejgahfbaaGreatDoor
open Go.RowKit

def cells8 (xs : Bs) : List Value := xs.map fun x => .int .u8 (x.toNat : Int)
theorem cells8_len (xs : Bs) : (cells8 xs).length = xs.length := by unfold cells8; simp
theorem cells8_append (xs ys : Bs) : cells8 (xs ++ ys) = cells8 xs ++ cells8 ys := by unfold cells8; simp
theorem cells8_row {w : World} {F : Nat → Prop} (xs : Bs) : Row Ty.u8 w F xs (cells8 xs) := by
  induction xs with
  | nil => rfl
  | cons x xs ih => exact ⟨_, _, rfl, rfl, ih⟩
theorem row_cells8 {w : World} {F : Nat → Prop} {xs : Bs} {cs : List Value} (h : Row Ty.u8 w F xs cs) : cs = cells8 xs := by
  induction xs generalizing cs with
  | nil => exact h
  | cons x xs ih => obtain ⟨c, d, rfl, rfl, h2⟩ := h; rw [ih h2]; rfl

theorem setCells_blk {b : Nat} {t : TypeId} : ∀ (news : List Value) (w : World) (o : Nat) (cur : Array Value), w.heap[b]? = some (.cells cur t (0, 0)) → o + news.length ≤ cur.size →
    ∃ cur', (w.setCells b o news).heap[b]? = some (.cells cur' t (0, 0)) ∧ cur'.size = cur.size ∧ (∀ i, cur'[i]? = if o ≤ i ∧ i < o + news.length then news[i - o]? else cur[i]?) ∧ Fr (fun k => k = b) w (w.setCells b o news)
  | [], w, o, cur, hb, hl => ⟨cur, hb, rfl, fun i => by rw [if_neg (by simp only [List.length_nil]; omega)], Fr.refl _ _⟩
  | v :: vs, w, o, cur, hb, hl => by
    simp only [List.length_cons] at hl
    obtain ⟨cur', h1, h2, h3, h4⟩ := setCells_blk vs (w.setCell ⟨b, o, none⟩ v) (o + 1) _ (blk_set hb o v) (by simp; omega)
    refine ⟨cur', h1, by simpa using h2, fun i => ?_, (Fr.set (F := fun k => k = b) (Fr.refl (fun k => k = b) w) ⟨b, o, none⟩ (.inl rfl) v).trans (h4.mono fun k _ e => .inl e)⟩
    rw [h3 i, Array.getElem?_setIfInBounds]
    simp only [List.length_cons]
    by_cases h : o = i
    · subst h
      rw [if_neg (by omega), if_pos rfl, if_pos (by omega), if_pos (by omega), Nat.sub_self]; rfl
    · by_cases h5 : o + 1 ≤ i ∧ i < o + 1 + vs.length
      · rw [if_pos h5, if_pos (by omega), show i - o = (i - (o + 1)) + 1 by omega]; rfl
      · rw [if_neg h5, if_neg (by omega), if_neg (by omega)]

/-- Bytes that wait; F bounds their block. -/
def Wt (w : World) (F : Nat → Prop) (v : Value) (xs : Bs) : Prop :=
  (v = .slice none 0 0 ∧ xs = []) ∨ ∃ g off cap cur, v = .slice (some ⟨g, off, none⟩) xs.length cap ∧ F g ∧ w.heap[g]? = some (.cells cur 5 (0, 0)) ∧ xs.length ≤ cap ∧ off + cap ≤ cur.size ∧ cap ≤ maxLen ∧ ∀ i, i < xs.length → cur[off + i]? = (cells8 xs)[i]?
theorem Wt.stab {w w' : World} {F : Nat → Prop} {v : Value} {xs : Bs} (h : Wt w F v xs) (k : ∀ k, F k → k < w.heap.size → w'.heap[k]? = w.heap[k]?) : Wt w' F v xs := by
  rcases h with h | ⟨g, off, cap, cur, h1, h2, h3, h4⟩
  · exact .inl h
  · exact .inr ⟨g, off, cap, cur, h1, h2, (k g h2 (blk_lt h3)).trans h3, h4⟩
theorem Wt.fr {S F : Nat → Prop} {w w' : World} {v : Value} {xs : Bs} (h : Wt w F v xs) (f : Fr S w w') (hd : ∀ k, F k → ¬ S k) : Wt w' F v xs := h.stab fun k hk hl => f.block k hl (hd k hk)
theorem Wt.fr0 {F : Nat → Prop} {w w' : World} {v : Value} {xs : Bs} (h : Wt w F v xs) (f : Fr No w w') : Wt w' F v xs := h.fr f fun _ _ f => f
theorem Wt.mono {F G : Nat → Prop} {w : World} {v : Value} {xs : Bs} (h : Wt w F v xs) (k : ∀ k, F k → k < w.heap.size → G k) : Wt w G v xs := by
  rcases h with h | ⟨g, off, cap, cur, h1, h2, h3, h4⟩
  · exact .inl h
  · exact .inr ⟨g, off, cap, cur, h1, k g h2 (blk_lt h3), h3, h4⟩
theorem Wt.form {F : Nat → Prop} {w : World} {v : Value} {xs : Bs} (h : Wt w F v xs) : ∃ A c, v = .slice A xs.length c ∧ xs.length ≤ c ∧ xs.length ≤ 9223372036854775807 := by
  rcases h with ⟨rfl, rfl⟩ | ⟨g, off, cap, cur, rfl, _, _, h4, _, h6, _⟩
  · exact ⟨none, 0, rfl, Nat.le_refl _, by simp⟩
  · exact ⟨_, cap, rfl, h4, by unfold maxLen at h6; omega⟩
theorem info_b8 : (Tryz.prog.info? 5).map (fun i => (i.zero, i.size, i.bytes)) = some (some (.int .u8 0), 1, 1) := by kernel_rfl

theorem Wt.of_owns {w : World} {F : Nat → Prop} {v : Value} {xs : Bs} {base : Nat} (h : w.ownsRow base 5 1 v xs.length (cells8 xs)) (hF : ∀ k, base ≤ k → k < w.heap.size → F k) : Wt w F v xs := by
  rcases h.2 with ⟨rfl, h4⟩ | ⟨g, cap, cur, rfl, hb, hg, hn, hm, hs, ht⟩
  · exact .inl ⟨rfl, List.eq_nil_of_length_eq_zero h4⟩
  · refine .inr ⟨g, 0, cap, cur, rfl, hF g hb (blk_lt hg), hg, hn, by omega, hm, fun i hi => ?_⟩
    rw [Nat.zero_add, ← ht, List.getElem?_take, if_pos (by omega), Array.getElem?_toList]

set_option maxRecDepth 100000 in
/-- append(v, x...). -/
theorem wt_append {w : World} {F : Nat → Prop} {v : Value} {xs ys : Bs} (h : Wt w F v xs) {A : Option Addr} {c : Nat} (hA : At w A (cells8 ys)) (hl : xs.length + ys.length ≤ 140737488355328) (ty : TypeId) :
    ∃ v' w', (Builtin.append_ #[46, 46] ty #[v, .slice A ys.length c]).run Tryz.prog w = .ok v' w' ∧ Wt w' (fun i => F i ∨ w.heap.size ≤ i) v' (xs ++ ys) ∧ Fr F w w' := by
  obtain ⟨i0, hi, hz0, hz1, hz2⟩ := info_parts info_b8
  have hml : xs.length + ys.length ≤ maxLen := by unfold maxLen; omega
  by_cases hy : ys = []
  · subst hy
    have hf : (Builtin.firstCells i0.size 0 (.slice A 0 c)).run Tryz.prog w = .ok #[] w := by cases A <;> simp [Builtin.firstCells, loadCells, loadCellsFrom]
    rcases h with ⟨rfl, rfl⟩ | ⟨g, off, cap, cur, rfl, h2, h3, h4, h5⟩
    · refine ⟨.slice none 0 0, w, ?_, .inl ⟨rfl, rfl⟩, Fr.refl _ _⟩
      simp [Builtin.append_, run_underlying Tryz.underlying46, sizeOf, typeInfo, hi, Builtin.lenOf, hf]
    · refine ⟨.slice (some ⟨g, off, none⟩) xs.length cap, w, ?_, .inr ⟨g, off, cap, cur, by simp, .inl h2, h3, by simpa using h4, by simpa using h5⟩, Fr.refl _ _⟩
      simp [Builtin.append_, run_underlying Tryz.underlying46, sizeOf, typeInfo, hi, Builtin.lenOf, hf, h4, storeCells]
  · have hy1 : 0 < ys.length := List.length_pos_iff.2 hy
    obtain ⟨ad, rfl, _⟩ := hA 0 _ (List.getElem?_eq_getElem (by rw [cells8_len]; exact hy1))
    have hnews : ∀ j u, (cells8 ys)[j]? = some u → w.cell? (ad.add j) = some u := fun j u hu => by
      obtain ⟨ad', e', hc⟩ := hA j u hu
      obtain rfl := Option.some.inj e'
      exact hc
    have hone : ∀ u ∈ cells8 ys, u.oneCell' = true := (cells8_row (w := w) (F := F) ys).one
    rcases h with ⟨rfl, rfl⟩ | ⟨g, off, cap, cur, rfl, h2, h3, h4, h5, h6, h7⟩
    · obtain ⟨g, cap, w', hr, ho, hg, _, _⟩ := run_append_lies (P := Tryz.prog) w 46 ty w.heap.size 5 i0 _ 1 1 Tryz.underlying46 hi hz0 hz1 hz2 rfl (by decide) _ 0 [] (World.ownsRow_nil w w.heap.size 5 1) ad ys.length c (cells8 ys) (by rw [cells8_len, Nat.mul_one]) hnews hone hy1 (by simp only [List.length_nil, Nat.zero_add] at hml; omega) (by simp only [List.length_nil] at hl; omega) (Nat.le_refl _) w.heap.size rfl
      simp only [Nat.zero_add, List.nil_append] at hr ho
      exact ⟨_, w', hr, (Wt.of_owns ho fun k hk _ => .inr hk), (Fr.refl _ w).grown hg fun k hk => by cases hk⟩
    · have hold : ∀ j u, (cells8 xs)[j]? = some u → w.cell? ⟨g, off + j, none⟩ = some u := fun j u hu => by
        have hj := (List.getElem?_eq_some_iff.1 hu).1
        rw [cells8_len] at hj
        rw [blk_cell h3, h7 j hj]; exact hu
      by_cases hr : xs.length + ys.length ≤ cap
      · have hrun := run_append_room_cells (P := Tryz.prog) w 46 ty 5 i0 Tryz.underlying46 hi g off xs.length cap ad ys.length c (cells8 ys) (by rw [cells8_len, hz1, Nat.mul_one]) hnews hone hr (fun j hj => by
          rw [cells8_len] at hj
          rw [hz1, Nat.mul_one, blk_cell h3, Array.getElem?_eq_getElem (by omega)]; rfl) (fun j hj => by rw [hz1, Nat.mul_one]; exact blk_frozen h3 _)
        rw [hz1, Nat.mul_one] at hrun
        obtain ⟨cur', k1, k2, k3, k4⟩ := setCells_blk (cells8 ys) w (off + xs.length) cur h3 (by rw [cells8_len]; omega)
        refine ⟨_, _, hrun, .inr ⟨g, off, cap, cur', by rw [List.length_append], .inl h2, k1, by rw [List.length_append]; exact hr, by omega, h6, fun i hi => ?_⟩, k4.mono fun k _ e => by rw [e]; exact h2⟩
        rw [List.length_append] at hi
        rw [k3, cells8_len, cells8_append]
        by_cases hlt : i < xs.length
        · rw [if_neg (by omega), h7 i hlt, List.getElem?_append_left (by rw [cells8_len]; exact hlt)]
        · rw [if_pos (by omega), List.getElem?_append_right (by rw [cells8_len]; omega), cells8_len]
          congr 1; omega
      · obtain ⟨v', w', hrun, ho, hg⟩ := run_append_arg_grows (P := Tryz.prog) w 46 ty 5 i0 _ 1 1 Tryz.underlying46 hi hz0 hz1 hz2 rfl (by decide) ⟨g, off, none⟩ xs.length cap (cells8 xs) (by rw [cells8_len, Nat.mul_one]) (fun j u hj => by rw [Addr.add_lit]; exact hold j u hj) ad ys.length c (cells8 ys) (by rw [cells8_len, Nat.mul_one]) hnews (by omega) hml (by omega)
        rw [← cells8_append, ← List.length_append] at ho
        exact ⟨v', w', hrun, Wt.of_owns ho fun k hk _ => .inr hk, (Fr.refl _ w).grown hg fun k hk => by cases hk⟩

/-- The first 64, and those behind. -/
theorem Wt.head {w : World} {F : Nat → Prop} {A : Option Addr} {n c : Nat} {xs : Bs} (h : Wt w F (.slice A n c) xs) (h64 : 64 ≤ xs.length) : n = xs.length ∧ 64 ≤ c ∧ Rd Ty.u8 w F A (xs.take 64) ∧
    (∀ W, (Instr.slice 46 (.slice A n c) none (some (.int .i64 64)) none).run Tryz.prog W = .ok (.slice A 64 c) W) ∧
    ∃ A', (∀ W, (Instr.slice 46 (.slice A n c) (some (.int .i64 64)) none none).run Tryz.prog W = .ok (.slice A' (n - 64) (c - 64)) W) ∧ Wt w F (.slice A' (n - 64) (c - 64)) (xs.drop 64) := by
  rcases h with ⟨h1, rfl⟩ | ⟨g, off, cap, cur, h1, h2, h3, h4, h5, h6, h7⟩
  · simp at h64
  · injection h1 with e1 e2 e3
    subst e1; subst e2; subst e3
    have hu : Tryz.prog.underlying 46 = some (.slice (Tryz.prog.elem 46)) := by kernel_rfl
    have hel : Tryz.prog.elem 46 = 5 := by kernel_rfl
    obtain ⟨i0, hi, hz0, hz1, hz2⟩ := info_parts info_b8
    refine ⟨rfl, by omega, ⟨by simp; omega, cells8 (xs.take 64), cells8_row _, fun j u hj => ?_⟩, fun W => ?_, ?_⟩
    · have hj' := (List.getElem?_eq_some_iff.1 hj).1
      rw [cells8_len, List.length_take] at hj'
      refine ⟨_, rfl, h2, ?_⟩
      rw [Addr.add_lit, blk_cell h3, h7 j (by omega)]
      unfold cells8 at hj ⊢
      rw [List.getElem?_map, List.getElem?_take, if_pos (by omega)] at hj
      rw [List.getElem?_map]; exact hj
    · have hc0 : ¬ c = 0 := by omega
      have := run_slice_h (P := Tryz.prog) W 46 (some ⟨g, off, none⟩) xs.length c hu .i64 64 (by omega) (by omega)
      rw [this, hel]
      simp [sizeOf, typeInfo, hi, hz1, sliced, Result.andThen, hc0, Addr.add]
    · have hrun := fun W => run_slice_l (P := Tryz.prog) W 46 (some ⟨g, off, none⟩) xs.length c hu .i64 64 (by omega) (by omega)
      by_cases hc : c = 64
      · refine ⟨some ⟨g, off, none⟩, fun W => ?_, .inr ⟨g, off, c - 64, cur, by simp, h2, h3, by simp; omega, by omega, by omega, fun i hi => ?_⟩⟩
        · rw [hrun, hel]
          simp [sizeOf, typeInfo, hi, hz1, sliced, Result.andThen, hc]
        · simp at hi; omega
      · refine ⟨some ⟨g, off + 64, none⟩, fun W => ?_, .inr ⟨g, off + 64, c - 64, cur, by simp, h2, h3, by simp; omega, by omega, by omega, fun i hi => ?_⟩⟩
        · rw [hrun, hel]
          simp [sizeOf, typeInfo, hi, hz1, sliced, Result.andThen, hc, Addr.add]
        · rw [List.length_drop] at hi
          rw [Nat.add_assoc, h7 (64 + i) (by omega)]
          unfold cells8
          rw [List.getElem?_map, List.getElem?_map, List.getElem?_drop]
end Go.Proofs.YtlmhphejgahfbaaGreatDoor
