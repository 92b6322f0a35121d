/- Texts of this claim, one behind the other: Digs, ShaLaw, Arr, RefSum, Cut. -/
import Derived.Test.YtlmhphejgahfbaaGreatDoorMrowledgernil35
import Derived.Test.YtlmhphejgahfbaaGreatDoorMrowledgernil8
import Derived.Test.YtlmhphejgahfbaaGreatDoorMrowledgernil9
import Derived.Test.YtlmhphejgahfbaaGreatDoorMrowledgernil5
import Derived.Laws.Tables
import Derived.Laws.Rows
import Derived.Deep.DeepCutAuto
/- Layer 15 (ledger): Digests. -/
set_option linter.unusedVariables false
set_option linter.unusedSimpArgs false
namespace Go.Proofs.YtlmhphejgahfbaaGreatDoor
open Go.RowKit

theorem info_strd : (Tryz.prog.info? 9).map (fun i => (i.zero, i.size, i.bytes)) = some (some (.string ⟨#[]⟩), 1, 16) := by kernel_rfl
set_option maxHeartbeats 1000000 in
set_option maxRecDepth 100000 in
theorem led_digests {w : World} {col : Nat → Nat} {lb : Nat} {L : Led} (h : LedAt w col lb L) (hl : L.sts.length ≤ 100) :
    Calls Tryz.prog 17 #[.pointer (some ⟨lb, 0, none⟩)] w fun e w' => ∃ A c, e = .returned (.slice A L.sts.length c) ∧ Ow Ty.str 9 w' (fun i => w.heap.size ≤ i) (.slice A L.sts.length c) (L.sts.map Stt.dig) ∧ Fr No w w' := by
  obtain ⟨A, c, sb, mb, vst, l, hP⟩ := h
  obtain ⟨Av, cv, rfl, hcv, hst⟩ := hP.sts.slice
  have c4 := blk_cell hP.blk 4
  simp at c4
  have hl0 : (0 : Int) ≤ (L.sts.length : Int) := Int.natCast_nonneg _
  have hl1 : (L.sts.length : Int) ≤ 100 := by omega
  have H := Lib.hid (And.intro hst hl)
  clear hst hP hcv hl
  go_enter Tryz.func17, Tryz.ntmps17
  go_wp2_with fail
  go_loopw [3, 13] (fun v iv wr => ∃ (k : Nat) (A' : Option Addr) (c' : Nat), k ≤ L.sts.length ∧ iv = .int .i64 (k : Int) ∧ v = .slice A' k c' ∧ Hid (Ow Ty.str 9 wr (fun i => w.heap.size ≤ i) (.slice A' k c') ((L.sts.take k).map Stt.dig) ∧ Fr No w wr)) (fun _ iv _ => L.sts.length - (intOf iv).toNat)
  case atStart => exact ⟨0, none, 0, Nat.zero_le _, rfl, rfl, Ow.nil, Fr.refl No w⟩
  case round =>
    obtain ⟨k, A', c', hk, rfl, rfl, I⟩ := hrel
    have hk0 : (0 : Int) ≤ (k : Int) := Int.natCast_nonneg _
    by_cases hlt : k < L.sts.length
    · have hk1 : (k : Int) < (L.sts.length : Int) := by omega
      obtain ⟨ad, v, rfl, x0, x1, x2, x3, hn⟩ := stt_at (H.out.1.fr0 I.out.2) hlt
      obtain ⟨vo, rfl⟩ : ∃ o, v = .pointer o := by
        cases ht : L.sts[k].t with
        | nil => rw [ht] at hn; exact ⟨none, hn⟩
        | leaf key r => rw [ht] at hn; obtain ⟨b, A, c, rfl, _⟩ := hn; exact ⟨_, rfl⟩
        | node l r => rw [ht] at hn; obtain ⟨b, vl, vr, rfl, _⟩ := hn; exact ⟨_, rfl⟩
      have hsucc : (L.sts.take k).map Stt.dig ++ [L.sts[k].dig] = (L.sts.take (k + 1)).map Stt.dig := by rw [List.take_succ_eq_append_getElem hlt, List.map_append]; rfl
      have hlen : ((L.sts.take k).map Stt.dig).length = k := by rw [List.length_map, List.length_take]; omega
      obtain ⟨x, hx⟩ : ∃ x, L.sts[k] = x := ⟨_, rfl⟩
      rw [hx] at x0 x1 x2 hsucc
      clear hx hn
      obtain ⟨W1, hW1⟩ : ∃ W1, W1 = (wr.alloc (.cells #[.string x.dig, .string x.last, .string x.sum, .pointer vo] 81)).alloc (.cells #[.string x.dig] 9) := ⟨_, rfl⟩
      have hf1 : Fr No wr W1 := by rw [hW1]; exact ((Fr.refl No wr).alloc _).alloc _
      have hA : At W1 (some ⟨wr.heap.size + 1, 0, none⟩) [.string x.dig] := by rw [hW1]; exact At.block (blk_two2 wr _ _)
      have hl2 := H.out.2
      obtain ⟨A1, c1, w1, hrun, hO1, hg1, _⟩ := run_ow_append (P := Tryz.prog) (ty := 40) (ty' := 40) Ty.str (I.out.1.fr0 hf1) (.string ⟨#[]⟩) 16 Tryz.underlying40 info_strd rfl (by decide) (by decide) 1 (ys := [x.dig]) (Row.single (t := Ty.str) rfl) hA (by rw [hlen]; simp only [List.length_singleton]; omega)
      rw [hlen] at hrun hO1
      simp only [List.length_singleton] at hrun hO1
      rw [hsucc] at hO1
      have hz := Nat.le_trans I.out.2.size hf1.size
      have HH := Lib.hid (And.intro (hO1.mono (G := fun i => w.heap.size ≤ i) fun i hi _ => by rcases hi with hi | hi <;> omega) ((I.out.2.next hf1 (fun _ _ f => f.elim)).grown hg1 fun k hk => .inr (I.out.1.own hk).1))
      clear hf1 hA hl2 hO1 hg1 hz hlen hsucc
      go_wp2_with (at_builtin; rw [← hW1]; refine wpList_plain rfl fun K hK => wp_append_run _ _ _ _ rfl rfl rfl hrun (hK _ _ ?_))
      go_roundw
      case rel => exact ⟨k + 1, A1, c1, by omega, by go_num, rfl, HH.out.1, HH.out.2⟩
      case measure => simp [intOf]; omega
    · obtain rfl : k = L.sts.length := by omega
      rw [List.take_length] at I
      go_wp2_with fail
      go_ret
      exact ⟨A', c', rfl, I.out.1, I.out.2⟩
end Go.Proofs.YtlmhphejgahfbaaGreatDoor
/- SHA-256: the reference's schedule and rounds are the program's: plain laws. -/
set_option linter.unusedVariables false
set_option linter.unusedSimpArgs false
namespace Go.Proofs.YtlmhphejgahfbaaGreatDoor
open Go.RowKit

/-- The schedule's k-th word. -/
def wS (p : Bs) (k : Nat) : W32 := wordAt (ringAt p k) k
theorem ringAt_small (p : Bs) : ∀ k, k ≤ 16 → ringAt p k = inAll (fun _ => 0) 0 p
  | 0, _ => rfl
  | k + 1, h => by
    show ringNext (ringAt p k) k = _
    unfold ringNext
    rw [if_pos (by omega), ringAt_small p k (by omega)]
theorem wS_small (p : Bs) {k : Nat} (h : k < 16) : wS p k = inAll (fun _ => 0) 0 p k := by
  unfold wS wordAt
  rw [if_pos h, ringAt_small p k (by omega)]
theorem ring_wS (p : Bs) : ∀ k, 16 ≤ k → ∀ i, k ≤ i + 16 → i < k → ringAt p k (i % 16) = wS p i := by
  intro k hk
  induction k with
  | zero => omega
  | succ k ih =>
    intro i h1 h2
    by_cases h16 : k + 1 = 16
    · rw [ringAt_small p _ (by omega), wS_small p (by omega), Nat.mod_eq_of_lt (by omega)]
    · show ringNext (ringAt p k) k _ = _
      unfold ringNext upd
      rw [if_neg (by omega)]
      by_cases e : i = k
      · subst e
        show (if i % 16 = i % 16 then _ else _) = _
        rw [if_pos rfl]
        unfold wS wordAt
        rw [if_neg (by omega)]
      · show (if i % 16 = k % 16 then _ else _) = _
        rw [if_neg (by omega)]
        exact ih (by omega) i (by omega) (by omega)
theorem wS_next (p : Bs) {k : Nat} (h : 16 ≤ k) : wS p k = wS p (k - 16) + wS p (k - 7) + sg0 (wS p (k - 15)) + sg1 (wS p (k - 2)) := by
  have e : wS p k = nextW (ringAt p k) k := by unfold wS wordAt; rw [if_neg (by omega)]
  rw [e]
  unfold nextW
  rw [show k % 16 = (k - 16) % 16 by omega, show (k + 1) % 16 = (k - 15) % 16 by omega, show (k + 9) % 16 = (k - 7) % 16 by omega, show (k + 14) % 16 = (k - 2) % 16 by omega]
  rw [ring_wS p k h _ (by omega) (by omega), ring_wS p k h _ (by omega) (by omega), ring_wS p k h _ (by omega) (by omega), ring_wS p k h _ (by omega) (by omega)]
  rw [BitVec.add_comm (sg0 _) (wS p (k - 7)), BitVec.add_assoc, BitVec.add_assoc, BitVec.add_assoc]

/-- The first words are the bytes. -/
def seg (p : Bs) (i : Nat) : Bs := (p.drop (4 * i)).take 4
theorem word_snoc (r : Nat) (b : UInt8) : (BitVec.ofNat 32 r <<< 8) ||| b32 b = BitVec.ofNat 32 (256 * r + b.toNat) := by
  apply BitVec.eq_of_toNat_eq
  have hb := b.toNat_lt
  unfold b32
  rw [BitVec.toNat_or, BitVec.toNat_shiftLeft, BitVec.toNat_ofNat, BitVec.toNat_ofNat, BitVec.toNat_ofNat]
  have h1 : (r % 2 ^ 32) <<< 8 % 2 ^ 32 = (r % 2 ^ 24) <<< 8 := by rw [Nat.shiftLeft_eq, Nat.shiftLeft_eq]; omega
  have h2 : b.toNat % 2 ^ 32 = b.toNat := by omega
  rw [h1, h2, ← Nat.shiftLeft_add_eq_or_of_lt (by omega), Nat.shiftLeft_eq]
  omega
theorem inAll_at (p : Bs) (i : Nat) : inAll (fun _ => 0) 0 p i = BitVec.ofNat 32 (rdN (seg p i)) := by
  suffices ∀ n, n ≤ p.length → inAll (fun _ => 0) 0 (p.take n) i = BitVec.ofNat 32 (rdN (seg (p.take n) i)) by
    have := this p.length (Nat.le_refl _)
    rwa [List.take_length] at this
  intro n
  induction n with
  | zero => intro _; unfold seg; simp; rfl
  | succ n ih =>
    intro hn
    have ih := ih (by omega)
    have hl : (p.take n).length = n := by rw [List.length_take]; omega
    rw [List.take_succ_eq_append_getElem (by omega), inAll_snoc, hl, Nat.zero_add]
    obtain ⟨b, hb⟩ : ∃ b, p[n] = b := ⟨_, rfl⟩
    rw [hb]
    unfold inB1 upd
    by_cases e : i = n / 4
    · subst e
      rw [if_pos rfl, ih, word_snoc, ← rdN_snoc]
      congr 2
      unfold seg
      rw [List.drop_append_of_le_length (by omega), List.take_of_length_le (l := List.drop _ _ ++ [b]) (by simp; omega), List.take_of_length_le (by simp; omega)]
    · rw [if_neg e, ih]
      congr 2
      unfold seg
      rcases Nat.lt_or_ge i (n / 4) with h | h
      · rw [List.drop_append_of_le_length (by omega), List.take_append_of_le_length (by simp; omega)]
      · rw [List.drop_eq_nil_of_le (by omega), List.drop_eq_nil_of_le (by simp; omega)]
theorem wS_first (p : Bs) {k : Nat} (h : k < 16) : wS p k = BitVec.ofNat 32 (rdN (seg p k)) := by rw [wS_small p h, inAll_at]

/-- Choice and most. -/
theorem choice_eq (e f g : W32) : (e &&& f) ||| (~~~e &&& g) = g ^^^ (e &&& (f ^^^ g)) := by
  apply BitVec.eq_of_getLsbD_eq
  intro i hi
  simp only [BitVec.getLsbD_or, BitVec.getLsbD_and, BitVec.getLsbD_xor, BitVec.getLsbD_not, hi, decide_true, Bool.true_and]
  cases e.getLsbD i <;> cases f.getLsbD i <;> cases g.getLsbD i <;> rfl
theorem most_eq (a b c : W32) : (a &&& b) ^^^ (a &&& c) ^^^ (b &&& c) = (a &&& b) ||| (c &&& (a ||| b)) := by
  apply BitVec.eq_of_getLsbD_eq
  intro i hi
  simp only [BitVec.getLsbD_or, BitVec.getLsbD_and, BitVec.getLsbD_xor]
  cases a.getLsbD i <;> cases b.getLsbD i <;> cases c.getLsbD i <;> rfl
theorem U_not (x : W32) : IntKind.u32.wrap (4294967295 - U x) = U (~~~x) := by
  rw [wrap_u32]
  unfold U
  rw [BitVec.toNat_not]
  have := x.isLt
  omega
theorem U_not' (x : W32) : 4294967295 - U x = U (~~~x) := by
  have h := U_not x
  rw [wrap_u32] at h
  have := U_lt x
  have := U_nonneg x
  omega
theorem be8_beN (n : Nat) : be8 n = beN n 8 := by
  unfold be8 beN
  apply List.map_congr_left
  intro j hj
  rw [List.mem_range] at hj
  rw [show 8 * (8 - 1 - j) = 56 - 8 * j by omega]
theorem be4_beN (x : W32) : be4 x = beN x.toNat 4 := by
  unfold be4 beN
  apply List.map_congr_left
  intro j hj
  rw [List.mem_range] at hj
  rw [show 8 * (4 - 1 - j) = 24 - 8 * j by omega]
end Go.Proofs.YtlmhphejgahfbaaGreatDoor
/- Arrays made, stored and loaded whole. -/
set_option linter.unusedVariables false
set_option linter.unusedSimpArgs false
namespace Go.Proofs.YtlmhphejgahfbaaGreatDoor
open Go.RowKit

set_option maxRecDepth 100000 in
theorem run_alloc64 (w : World) : (Instr.alloc 162 true (.tuple #[])).run Tryz.prog w = .ok (.pointer (some ⟨w.heap.size, 0, none⟩)) (w.alloc (.cells (Array.replicate 64 (.int .u32 0)) 162)) := by
  have e : (Array.replicate 64 (Value.int .u32 0)) = #[.int .u32 0, .int .u32 0, .int .u32 0, .int .u32 0, .int .u32 0, .int .u32 0, .int .u32 0, .int .u32 0, .int .u32 0, .int .u32 0, .int .u32 0, .int .u32 0, .int .u32 0, .int .u32 0, .int .u32 0, .int .u32 0, .int .u32 0, .int .u32 0, .int .u32 0, .int .u32 0, .int .u32 0, .int .u32 0, .int .u32 0, .int .u32 0, .int .u32 0, .int .u32 0, .int .u32 0, .int .u32 0, .int .u32 0, .int .u32 0, .int .u32 0, .int .u32 0, .int .u32 0, .int .u32 0, .int .u32 0, .int .u32 0, .int .u32 0, .int .u32 0, .int .u32 0, .int .u32 0, .int .u32 0, .int .u32 0, .int .u32 0, .int .u32 0, .int .u32 0, .int .u32 0, .int .u32 0, .int .u32 0, .int .u32 0, .int .u32 0, .int .u32 0, .int .u32 0, .int .u32 0, .int .u32 0, .int .u32 0, .int .u32 0, .int .u32 0, .int .u32 0, .int .u32 0, .int .u32 0, .int .u32 0, .int .u32 0, .int .u32 0, .int .u32 0] := by rfl
  rw [e]
  simp [Instr.alloc, Tryz.zeroValue162, newVar, newRow, Value.cells]
theorem wpList_alloc64 {ops : Array Oper} {rest : List Oper} {o : Oper} {a : Act} {w : World} {Q : Exit → Act → World → Prop} (hgd : o.guard = none) (ho : o.op = .alloc 162)
    (h : wpList Tryz.prog ops Q rest (a.put o.dst (.pointer (some ⟨w.heap.size, 0, none⟩))) (w.alloc (.cells (Array.replicate 64 (.int .u32 0)) 162))) : wpList Tryz.prog ops Q (o :: rest) a w := by
  refine wpList_plain hgd fun K hK => ?_
  unfold Oper.wp
  simp only [execOp, ho, Sem.run_bind, Sem.run_pure, Result.andThen_ok, run_alloc64]
  exact hK _ _ h
set_option maxRecDepth 100000 in
theorem wpList_store64 {ops : Array Oper} {rest : List Oper} {o : Oper} {a : Act} {w : World} {Q : Exit → Act → World → Prop} (hgd : o.guard = none) (hd : o.dst = none) (x y : Operand) (ho : o.op = .store 162 x y)
    (c c' : Array Value) (hx : a.eval x = .pointer (some ⟨w.heap.size, 0, none⟩)) (hy : a.eval y = .agg c') (hi : c'.size = 64) (hold : c.size = 64) (h1 : c'.all (·.oneCell') = true)
    (h : wpList Tryz.prog ops Q rest a (w.alloc (.cells c' 162))) : wpList Tryz.prog ops Q (o :: rest) a (w.alloc (.cells c 162)) := by
  have hinfo : (Tryz.prog.info? 162).map (·.size) = some 64 := by kernel_rfl
  refine wpList_store_row hgd _ x y ho _ c' hx hy _ c (heap_alloc_new w _) (by rw [hi]; exact hinfo) (by rw [hi, hold]) h1 ?_
  rw [hd]
  have : (w.alloc (.cells c 162)).setRow w.heap.size c' = w.alloc (.cells c' 162) := by
    simp only [World.setRow, World.alloc]
    congr 1
    apply Array.ext_getElem?
    intro i
    rw [Array.getElem?_modify]
    by_cases h : w.heap.size = i
    · subst h; simp
    · have h' : ¬ i = w.heap.size := fun e => h e.symm
      simp [h, h', Array.getElem?_push]
  rw [this]
  exact h
theorem Words.of {w : World} {b : Nat} {n : Nat} {cs : Array Value} {tt : TypeId} {R : Nat → W32} (hb : w.heap[b]? = some (.cells cs tt (0, 0))) (hs : cs.size = n) (h : ∀ j, j < n → cs[j]? = some (.int .u32 (U (R j)))) : Words w b 0 n R :=
  ⟨cs, tt, hb, by omega, fun j hj => by rw [Nat.zero_add]; exact h j hj⟩
end Go.Proofs.YtlmhphejgahfbaaGreatDoor
/- Reference 3 (sha): Sum. -/
set_option linter.unusedVariables false
set_option linter.unusedSimpArgs false
namespace Go.Proofs.YtlmhphejgahfbaaGreatDoor
open Go.RowKit

set_option maxHeartbeats 2000000 in
set_option maxRecDepth 100000 in
theorem constants_ok (w : World) : Calls Tryz.prog 92 #[] w fun e w' => e = .returned (.agg KV) ∧ Fr No w w' := by
  go_enter Tryz.func92, Tryz.ntmps92
  go_wp2_with (first
    | refine wpList_alloc64 rfl rfl ?_
    | refine wpList_store64 rfl rfl _ _ rfl _ KV rfl rfl rfl (by rfl) (by decide +kernel) ?_)
  refine bodyPost_ret (results_cell_row rfl _ _ w.heap.size 162 KV (0, 0) _ rfl (heap_alloc_new w _) Tryz.underlying162 rfl (by kernel_rfl)) rfl ?_
  exact ⟨rfl, (Fr.refl No w).alloc _⟩

theorem words_kv {w : World} {b : Nat} (h : w.heap[b]? = some (.cells KV 162 (0, 0))) : Words w b 0 64 Kc := Words.of h rfl fun j hj => KV_at hj
end Go.Proofs.YtlmhphejgahfbaaGreatDoor
/- A block's inside, out of a function's body: so that a loop can be a theorem of its own. -/
set_option linter.unusedVariables false
set_option linter.unusedSimpArgs false
namespace Go.Proofs.YtlmhphejgahfbaaGreatDoor
open Go.RowKit

def find (n : Nat) : Code → Option Code
  | .seq a b => match find n a with | some c => some c | none => find n b
  | .cond _ a b => match find n a with | some c => some c | none => find n b
  | .block m c => if m == n then some c else find n c
  | .loop c => find n c
  | _ => none
def inner (c : Option Code) (n : Nat) : Code := match c with | some c => (match find n c with | some d => d | none => .skip) | none => .skip

/-- What a word's cell holds. -/
def oldU (w : World) (ad : Addr) : Int := match w.cell? ad with | some (.int _ x) => x | _ => 0
theorem keepU {w : World} {ad : Addr} {k : IntKind} {x : Int} (h : w.cell? ad = some (.int k x)) : w.cell? ad = some (.int k (oldU w ad)) := by unfold oldU; rw [h]
theorem keepS {w : World} {b k q : Nat} {v u : Value} (h : w.cell? ⟨b, q, none⟩ = some v) (hne : k ≠ q) : (w.setCell ⟨b, k, none⟩ u).cell? ⟨b, q, none⟩ = some v :=
  (World.cell?_setCell_other _ _ _ _ (by intro e; injection e with e1 e2; exact hne e2)).trans h
theorem keepF {w : World} {b k q : Nat} {u : Value} (h : w.frozen? ⟨b, q, none⟩ = false) : (w.setCell ⟨b, k, none⟩ u).frozen? ⟨b, q, none⟩ = false := by
  rw [World.frozen?_setCell]; exact h
end Go.Proofs.YtlmhphejgahfbaaGreatDoor
