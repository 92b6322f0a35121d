/- Texts of this claim, one behind the other: Repl. -/
import Derived.Test.YtlmhphejgahfbaaGreatDoorMrowledgerdeletesKFit
import Derived.Test.YtlmhphejgahfbaaGreatDoorMrowledgerdeletes23
import Derived.Test.YtlmhphejgahfbaaGreatDoorShelf
import Derived.Test.YtlmhphejgahfbaaGreatDoorMrowledgerdeletes10
import Derived.Laws.CopyOwn
/- bytes.ReplaceAll: the noughts of a text that begins with its only one, or has none. -/
set_option linter.unusedVariables false
set_option linter.unusedSimpArgs false
namespace Go.Proofs.YtlmhphejgahfbaaGreatDoor
open Go.RowKit

theorem rd_ints {w : World} {F : Nat → Prop} {a : Addr} {l : Bs} (h : Rd Ty.u8 w F (some a) l) : ∀ i, i < l.length → w.cell? (a.add i) = some (.int .u8 ((l.map fun b => (b.toNat : Int)).getD i 0)) := by
  intro i hi
  obtain ⟨ad, e, hc⟩ := u8_atF h hi
  obtain rfl := Option.some.inj e
  rw [hc, List.getD_eq_getElem?_getD, List.getElem?_map, List.getElem?_eq_getElem hi]
  rfl
def byteV (b : UInt8) : Value := .int .u8 (b.toNat : Int)
section
variable {P : Program} {o : Oper} {a : Act} {Q : Exit → Act → World → Prop}
theorem wp_copy_run {w w1 : World} {K : Act → World → Prop} (d s : Operand) (dT sT : TypeId) (ho : o.op = .call { callee := .builtin .copy, args := #[d, s], argTypes := #[dT, sT] })
    {vd vs v1 : Value} (hd : a.eval d = vd) (hs : a.eval s = vs) (hr : (Builtin.copy_ #[dT, sT] o.type #[vd, vs]).run P w = .ok v1 w1) (h : K (a.put o.dst v1) w1) : o.wp P a w K Q := by
  unfold Oper.wp
  simp [execOp, ho, resolve, invoke, builtin, hd, hs, hr, Result.andThen]
  exact h
theorem wp_append_run2 {w w1 : World} {K : Act → World → Prop} (s x : Operand) (ty tx : TypeId) (ho : o.op = .call { callee := .builtin .append, args := #[s, x], argTypes := #[ty, tx] })
    {vs vx v1 : Value} (hs : a.eval s = vs) (hx : a.eval x = vx) (hr : (Builtin.append_ #[ty, tx] o.type #[vs, vx]).run P w = .ok v1 w1) (h : K (a.put o.dst v1) w1) : o.wp P a w K Q := by
  unfold Oper.wp execOp
  simp only [ho, resolve, invoke, builtin, Sem.run_bind, Sem.run_pure, Result.andThen_ok, List.map_toArray, List.map_cons, List.map_nil, hs, hx, hr]
  exact h
theorem copy_step {ops : Array Oper} {w w1 : World} {K : Act → World → Prop} {E : Prop} (d s : Operand) (dT sT : TypeId) (hgd : o.guard = none) (ho : o.op = .call { callee := .builtin .copy, args := #[d, s], argTypes := #[dT, sT] })
    {vd vs v1 : Value} (hd : a.eval d = vd) (hs : a.eval s = vs) (hr : (Builtin.copy_ #[dT, sT] o.type #[vd, vs]).run P w = .ok v1 w1) (h : K (a.put o.dst v1) w1) :
    if Region.wanted o (yielded ops a.tmps) = true then Oper.wp P o a w K Q else E := by
  have hw : Region.wanted o (yielded ops a.tmps) = true := by simp [Region.wanted, hgd]
  rw [if_pos hw]
  exact wp_copy_run d s dT sT ho hd hs hr h
end
theorem info_u8s : (Tryz.prog.info? 5).map (·.size) = some 1 := by kernel_rfl
theorem copy_bytes {W : World} {F : Nat → Prop} {g o dLen dCap sLen sCap : Nat} {A dp : Option Addr} {l : Bs} {cur : Array Value} {ty : TypeId} (hg : W.heap[g]? = some (.cells cur 5 (0, 0))) (hl : Rd Ty.u8 W F A l) (hn : sLen = l.length) (hd : l.length ≤ dLen) (hfit : o + l.length ≤ cur.size) (hpos : 0 < l.length → dp = some ⟨g, o, none⟩) :
    ∃ W', (Builtin.copy_ #[46, 46] ty #[.slice dp dLen dCap, .slice A sLen sCap]).run Tryz.prog W = .ok (.int .i64 (l.length : Int)) W' ∧ W'.heap[g]? = some (.cells (cur.toList.take o ++ l.map byteV ++ cur.toList.drop (o + l.length)).toArray 5 (0, 0)) ∧ Fr (fun i => i = g) W W' := by
  subst hn
  by_cases h0 : l = []
  · subst h0
    refine ⟨W, run_copy_none W 46 46 ty 5 dp A dLen dCap 0 sCap Tryz.underlying46 info_u8s (Nat.zero_min _), ?_, Fr.refl _ W⟩
    simpa using hg
  · have hlen := List.length_pos_iff.2 h0
    obtain rfl := hpos hlen
    obtain ⟨ad, rfl, _⟩ := u8_atF hl hlen
    have h := run_copy_row W 46 46 ty 5 g o dLen dCap ad l.length sCap cur 5 (l.map byteV) (P := Tryz.prog) Tryz.underlying46 info_u8s hg (by rw [List.length_map]; exact (Nat.min_eq_left hd).symm) (fun j v hv => by
      rw [List.getElem?_map] at hv
      obtain ⟨b, hb, rfl⟩ := Option.map_eq_some_iff.1 hv
      obtain ⟨hj, rfl⟩ := List.getElem?_eq_some_iff.1 hb
      obtain ⟨ad', e, hc⟩ := u8_atF hl hj
      obtain rfl := Option.some.inj e
      exact hc) (by rw [List.length_map]; exact hfit) (fun v hv => by obtain ⟨b, _, rfl⟩ := List.mem_map.1 hv; rfl)
    rw [List.length_map] at h
    refine ⟨_, h, ?_, ⟨rfl, rfl, rfl, by simp [World.setRow], fun i hi hn => setRow_other W g i _ hn⟩⟩
    simp [World.setRow, Array.getElem?_modify, hg]
theorem cut_u8 (g' : Addr) (n c lo : Nat) (hlo : lo ≤ n) (hc : n ≤ c) {x : Int} (hx : x = (lo : Int)) (W : World) : (Instr.slice 46 (.slice (some g') n c) (some (.int .i64 x)) none none).run Tryz.prog W = .ok (.slice (if c = lo then some g' else some (g'.add lo)) (n - lo) (c - lo)) W := by
  subst hx
  obtain ⟨i0, hi0, hsz⟩ := Option.map_eq_some_iff.1 info_u8s
  have hel : Tryz.prog.elem 46 = 5 := by kernel_rfl
  have hu : Tryz.prog.underlying 46 = some (.slice (Tryz.prog.elem 46)) := by rw [hel]; exact Tryz.underlying46
  rw [run_slice_l W 46 (some g') n c hu .i64 (lo : Int) (Int.natCast_nonneg _) (by omega), hel]
  simp [sizeOf, typeInfo, hi0, hsz, sliced, Result.andThen]

theorem cut_all (g' : Addr) (n c : Nat) (hc : n ≤ c) {x : Int} (hx : x = (n : Int)) (W : World) : (Instr.slice 46 (.slice (some g') n c) (some (.int .i64 0)) (some (.int .i64 x)) none).run Tryz.prog W = .ok (.slice (some g') n c) W := by
  subst hx
  obtain ⟨i0, hi0, hsz⟩ := Option.map_eq_some_iff.1 info_u8s
  have hel : Tryz.prog.elem 46 = 5 := by kernel_rfl
  have hu : Tryz.prog.underlying 46 = some (.slice (Tryz.prog.elem 46)) := by rw [hel]; exact Tryz.underlying46
  rw [run_slice_lh W 46 (some g') n c hu .i64 .i64 0 (n : Int) (Int.le_refl _) (Int.natCast_nonneg _) (by omega), hel]
  simp [sizeOf, typeInfo, hi0, hsz, sliced, Result.andThen]
  intro _
  unfold Addr.add
  simp
theorem run_make_u8 (w : World) (L : Nat) {x : Int} (hx : x = (L : Int)) (hL : L ≤ 100000) :
    ∃ W cur, (Instr.makeSlice 46 (.int .i64 x) (.int .i64 x)).run Tryz.prog w = .ok (.slice (some ⟨w.heap.size, 0, none⟩) L L) W ∧ W.heap[w.heap.size]? = some (.cells cur 5 (0, 0)) ∧ cur.size = L ∧ Fr No w W ∧ W.heap.size = w.heap.size + 1 := by
  subst hx
  obtain ⟨i0, hi, hzz⟩ := Option.map_eq_some_iff.1 info_u8
  simp only [Prod.mk.injEq] at hzz
  obtain ⟨hz0, hz1, hz2⟩ := hzz
  have h := run_make (P := Tryz.prog) w 46 5 i0 (.int .u8 0) Tryz.underlying46 hi hz0 .i64 .i64 (L : Int) (L : Int) (by omega) (Int.le_refl _) (by rw [hz2]; omega) (by omega)
  rw [hz1] at h
  simp only [Int.toNat_natCast, Nat.mul_one] at h
  exact ⟨_, _, h, heap_alloc_new _ _, size_madeCells _ _, (Fr.refl No w).alloc _, by simp⟩
set_option maxHeartbeats 4000000 in
set_option maxRecDepth 100000 in
theorem replace_one {w : World} {F : Nat → Prop} {a : Addr} {c g1 g2 d1 d2 m : Nat} {r : Bs} (hs : Rd Ty.u8 w F (some a) (0 :: r)) (hm : r.length = m) (hm2 : m ≤ 1000)
    (hcount : Lib.countByte (Lib.bytesOf (((0 : UInt8) :: r).map fun b => (b.toNat : Int))) (0 : Int).toNat.toUInt8 = 1) (hidx : Lib.indexByte (Lib.bytesOf (((0 : UInt8) :: r).map fun b => (b.toNat : Int))) (0 : Int).toNat.toUInt8 = 0)
    (h1 : w.cell? ⟨g1, 0, none⟩ = some (.int .u8 0)) (h2 : w.cell? ⟨g2, 0, none⟩ = some (.int .u8 0)) (h3 : w.cell? ⟨g2, 1, none⟩ = some (.int .u8 255)) (hc : m + 1 ≤ c) :
    Calls Tryz.prog 238 #[.slice (some a) (m + 1) c, .slice (some ⟨g1, 0, none⟩) 1 d1, .slice (some ⟨g2, 0, none⟩) 2 d2, .int .i64 (-1)] w (OwnB w (0 :: 255 :: r)) := by
  have hcnt := Tryz.bytes_Count_one_at a (m + 1) c g1 0 d1 (((0 : UInt8) :: r).map fun b => (b.toNat : Int)) 0 w (by simp [hm]) (fun i hi => rd_ints hs i (by simp [hm]; omega)) h1
  rw [hcount] at hcnt
  have H := Lib.hid (And.intro hcnt (And.intro hs hm))
  have hm0 : (0 : Int) ≤ (m : Int) := Int.natCast_nonneg _
  have hmi : (m : Int) ≤ 1000 := by omega
  have hz : Rd Ty.u8 w (fun _ => True) (some ⟨g2, 0, none⟩) ([0, 255] : Bs) := ⟨by decide, [.int .u8 0, .int .u8 255], row_bytes [0, 255], fun j u hu => ⟨_, rfl, trivial, by
    rw [add0]
    match j, hu with
    | 0, hu => rw [h2]; exact hu
    | 1, hu => rw [h3]; exact hu
    | j + 2, hu => cases hu⟩⟩
  have HZ := Lib.hid hz
  clear hcnt hs hcount hz
  have hb20 : (0 : Int) ≤ (m : Int) + 2 := by omega
  have hb21 : (0 : Int) ≤ (m : Int) + 1 := by omega
  unfold OwnB
  rw [show (0 :: 255 :: r : Bs).length = m + 2 by rw [List.length_cons, List.length_cons, hm]]
  go_enter Tryz.func238, Tryz.ntmps238
  go_wp2_with fail
  refine H.out.1.mono ?_
  rintro e w ⟨rfl, rfl⟩
  obtain ⟨W1, cur, hmk, hg1, hcs, hf1, hz1⟩ := run_make_u8 w (m + 2) (x := (m : Int) + 1 + 1) (by omega) (by omega)
  have hix := Tryz.bytes_Index_one_at a (m + 1) c g1 0 d1 (((0 : UInt8) :: r).map fun b => (b.toNat : Int)) 0 W1 (by have := H.out.2.2; simp [this]) (fun i hi => rd_ints (H.out.2.1.fr0 hf1) i (by have := H.out.2.2; simp [this]; omega)) (hf1.cell h1 (fun f => f))
  rw [hidx] at hix
  have HX := Lib.hid hix
  clear hix hidx
  have H1 := Lib.hid (And.intro hg1 (And.intro hcs (And.intro hf1 hz1)))
  clear hg1 hcs hf1 hz1
  go_wp2_with fail
  refine wp_loop_rounds 2 ?_
  rw [rounds_succ]
  go_wp2_with fail
  refine HX.out.mono ?_
  rintro e W1 ⟨rfl, rfl⟩
  go_wp2_with fail
  refine wp_region_tail 10 (fun _ => True) (by kernel_rfl) trivial (fun hHeld => ?_)
  refine WalkTail.take (i := 0) (v := ?v0) rfl (by kernel_rfl) (fun _ _ _ h => h) (Or.inl ⟨by rfl, ?hy0⟩) (by assumption) ?_
  case hy0 => (intro w hSw; (try dsimp only at hSw); go_simp; try with_reducible rfl)
  (try simp only [Act.put, List.setIfInBounds_toArray, List.set_cons_zero, List.set_cons_succ])
  refine WalkTail.take (i := 1) (v := ?v1) rfl (by kernel_rfl) (fun _ _ _ h => h) (Or.inl ⟨by rfl, ?hy1⟩) (by assumption) ?_
  case hy1 => (intro w hSw; (try dsimp only at hSw); go_simp; try with_reducible rfl)
  (try simp only [Act.put, List.setIfInBounds_toArray, List.set_cons_zero, List.set_cons_succ])
  refine WalkTail.take (i := 2) (v := ?v2) rfl (by kernel_rfl) (fun _ _ _ h => h) (Or.inl ⟨by rfl, ?hy2⟩) (by assumption) ?_
  case hy2 => (intro w hSw; (try dsimp only at hSw); go_simp; try with_reducible rfl)
  (try simp only [Act.put, List.setIfInBounds_toArray, List.set_cons_zero, List.set_cons_succ])
  refine WalkTail.take (i := 3) (v := ?v3) rfl (by kernel_rfl) (fun _ _ _ h => h) (Or.inl ⟨by rfl, ?hy3⟩) (by assumption) ?_
  case hy3 => (intro w hSw; (try dsimp only at hSw); go_simp; try with_reducible rfl)
  (try simp only [Act.put, List.setIfInBounds_toArray, List.set_cons_zero, List.set_cons_succ])
  refine WalkTail.take (i := 4) (v := ?v4) rfl (by kernel_rfl) (fun _ _ _ h => h) (Or.inl ⟨by rfl, ?hy4⟩) (by assumption) ?_
  case hy4 => (intro w hSw; (try dsimp only at hSw); go_simp; try with_reducible rfl)
  (try simp only [Act.put, List.setIfInBounds_toArray, List.set_cons_zero, List.set_cons_succ])
  refine WalkTail.take (i := 5) (v := ?v5) rfl (by kernel_rfl) (fun _ _ _ h => h) (Or.inl ⟨by rfl, ?hy5⟩) (by assumption) ?_
  case hy5 => (intro w hSw; (try dsimp only at hSw); go_simp; try with_reducible rfl)
  (try simp only [Act.put, List.setIfInBounds_toArray, List.set_cons_zero, List.set_cons_succ])
  refine WalkTail.take (i := 6) (v := ?v6) rfl (by kernel_rfl) (fun _ _ _ h => h) (Or.inl ⟨by rfl, ?hy6⟩) (by assumption) ?_
  case hy6 => (intro w hSw; (try dsimp only at hSw); go_simp; try with_reducible rfl)
  (try simp only [Act.put, List.setIfInBounds_toArray, List.set_cons_zero, List.set_cons_succ])
  refine WalkTail.take (i := 7) (v := ?v7) rfl (by kernel_rfl) (fun _ _ _ h => h) (Or.inl ⟨by rfl, ?hy7⟩) (by assumption) ?_
  case hy7 => (intro w hSw; (try dsimp only at hSw); go_simp; try with_reducible rfl)
  (try simp only [Act.put, List.setIfInBounds_toArray, List.set_cons_zero, List.set_cons_succ])
  refine WalkTail.one (i := 8) rfl (by kernel_rfl) (by decide) (fun K hK => ?_)
  refine copy_step _ _ _ _ rfl rfl rfl rfl (run_copy_none _ 46 46 _ 5 _ _ _ _ _ _ Tryz.underlying46 info_u8s (Nat.zero_min _)) ?_
  refine hK.out _ _ trivial (fun hHeld => ?_)
  clear hK K
  (try simp only [Act.put, List.setIfInBounds_toArray, List.set_cons_zero, List.set_cons_succ])
  refine WalkTail.take (i := 9) (v := ?v9) rfl (by kernel_rfl) (fun _ _ _ h => h) (Or.inl ⟨by rfl, ?hy9⟩) (by assumption) ?_
  case hy9 => (intro w hSw; (try dsimp only at hSw); go_simp; try with_reducible rfl)
  (try simp only [Act.put, List.setIfInBounds_toArray, List.set_cons_zero, List.set_cons_succ])
  refine WalkTail.last rfl (by kernel_rfl) (by kernel_rfl) (fun K hK => ?_)
  go_simp
  refine hK.out _ _ ?_
  clear hK K
  obtain ⟨W2, hr2, hg2, hf2⟩ := copy_bytes (ty := 3) (F := fun _ => True) (o := 0) (dLen := m + 2) (dCap := m + 2) (sLen := 2) (sCap := d2) (A := some ⟨g2, 0, none⟩) (dp := some ⟨w.heap.size, 0, none⟩) (l := [0, 255]) (W := W1.drew) H1.out.1 (HZ.out.fr0 (H1.out.2.2.1.drew)) rfl (by simp) (by rw [H1.out.2.1]; simp) (fun _ => rfl)
  go_wp2_with (at_builtin; refine wpList_plain rfl fun K hK => wp_copy_run _ _ _ _ rfl rfl rfl hr2 (hK _ _ ?_))
  have H2 := Lib.hid (And.intro hg2 hf2)
  clear hg2 hf2 hr2
  rw [rounds_succ]
  have ht2 := cut_u8 ⟨w.heap.size, 0, none⟩ (m + 2) (m + 2) 2 (by omega) (Nat.le_refl _) (x := 2) rfl
  have hs1 := cut_u8 a (m + 1) c 1 (by omega) hc (x := 1) rfl
  obtain ⟨At, hAt⟩ : ∃ At, (if m + 2 = 2 then (some ⟨w.heap.size, 0, none⟩ : Option Addr) else some ((⟨w.heap.size, 0, none⟩ : Addr).add 2)) = At := ⟨_, rfl⟩
  obtain ⟨As, hAs⟩ : ∃ As, (if c = 1 then some a else some (a.add 1)) = As := ⟨_, rfl⟩
  rw [hAt, show m + 2 - 2 = m by omega] at ht2
  rw [hAs, show m + 1 - 1 = m by omega] at hs1
  have HA := Lib.hid (And.intro hAt hAs)
  clear hAt hAs
  go_wp2_with fail
  have hz1 : ∀ i, i = w.heap.size → ¬ (i < w.heap.size) := fun i e => by omega
  have hf02 : Fr No w W2 := H1.out.2.2.1.next (show Fr (fun i => i = w.heap.size) W1 W2 from ⟨H2.out.2.os, H2.out.2.tape, H2.out.2.output, H2.out.2.size, H2.out.2.block⟩) (fun i hi e => absurd hi (hz1 i e))
  have hfr : Rd Ty.u8 W2 F As r := by
    have h := (H.out.2.1.fr0 hf02).drop 1
    rw [show ((0 : UInt8) :: r).drop 1 = r from rfl] at h
    rw [← HA.out.2]
    by_cases hc1 : c = 1
    · have : r = [] := by have := H.out.2.2; exact List.eq_nil_of_length_eq_zero (by omega)
      rw [this]; exact Rd.nil
    · rw [if_neg hc1]; simpa [show Ty.u8.sz = 1 from rfl] using h
  obtain ⟨W3, hr3, hg3, hf3⟩ := copy_bytes (ty := 3) (F := F) (o := 2) (dLen := m) (dCap := m) (sLen := m) (sCap := c - 1) (A := As) (dp := At) (l := r) (W := W2.drew) (H2.out.1) (hfr.fr0 (Fr.refl No W2).drew) H.out.2.2.symm (by have := H.out.2.2; omega) (by have h1 := H1.out.2.1; have h2 := H.out.2.2; simp; omega) (fun h => by
    rw [← HA.out.1, if_neg (by have := H.out.2.2; omega), add0])
  have H3 := Lib.hid (And.intro hg3 (And.intro hf3 hf02))
  clear hg3 hf3 hf02 hfr hz1
  refine wp_region_tail 9 (fun _ => True) (by kernel_rfl) trivial (fun hHeld => ?_)
  refine WalkTail.take (i := 0) (v := ?vz0) rfl (by kernel_rfl) (fun _ _ _ h => h) (Or.inl ⟨by rfl, ?hyz0⟩) (by assumption) ?_
  case hyz0 => (intro w hSw; (try dsimp only at hSw); go_simp; try with_reducible rfl)
  (try simp only [Act.put, List.setIfInBounds_toArray, List.set_cons_zero, List.set_cons_succ])
  refine WalkTail.take (i := 1) (v := ?vz1) rfl (by kernel_rfl) (fun _ _ _ h => h) (Or.inl ⟨by rfl, ?hyz1⟩) (by assumption) ?_
  case hyz1 => (intro w hSw; (try dsimp only at hSw); go_simp; try with_reducible rfl)
  (try simp only [Act.put, List.setIfInBounds_toArray, List.set_cons_zero, List.set_cons_succ])
  refine WalkTail.take (i := 2) (v := ?vz2) rfl (by kernel_rfl) (fun _ _ _ h => h) (Or.inl ⟨by rfl, ?hyz2⟩) (by assumption) ?_
  case hyz2 => (intro w hSw; (try dsimp only at hSw); go_simp; try with_reducible rfl)
  (try simp only [Act.put, List.setIfInBounds_toArray, List.set_cons_zero, List.set_cons_succ])
  refine WalkTail.take (i := 3) (v := ?vz3) rfl (by kernel_rfl) (fun _ _ _ h => h) (Or.inl ⟨by rfl, ?hyz3⟩) (by assumption) ?_
  case hyz3 => (intro w hSw; (try dsimp only at hSw); go_simp; try with_reducible rfl)
  (try simp only [Act.put, List.setIfInBounds_toArray, List.set_cons_zero, List.set_cons_succ])
  refine WalkTail.take (i := 4) (v := ?vz4) rfl (by kernel_rfl) (fun _ _ _ h => h) (Or.inl ⟨by rfl, ?hyz4⟩) (by assumption) ?_
  case hyz4 => (intro w hSw; (try dsimp only at hSw); go_simp; try with_reducible rfl)
  (try simp only [Act.put, List.setIfInBounds_toArray, List.set_cons_zero, List.set_cons_succ])
  refine WalkTail.take (i := 5) (v := ?vz5) rfl (by kernel_rfl) (fun _ _ _ h => h) (Or.inl ⟨by rfl, ?hyz5⟩) (by assumption) ?_
  case hyz5 => (intro w hSw; (try dsimp only at hSw); go_simp; try with_reducible rfl)
  (try simp only [Act.put, List.setIfInBounds_toArray, List.set_cons_zero, List.set_cons_succ])
  refine WalkTail.take (i := 6) (v := ?vz6) rfl (by kernel_rfl) (fun _ _ _ h => h) (Or.inl ⟨by rfl, ?hyz6⟩) (by assumption) ?_
  case hyz6 => (intro w hSw; (try dsimp only at hSw); go_simp; try with_reducible rfl)
  (try simp only [Act.put, List.setIfInBounds_toArray, List.set_cons_zero, List.set_cons_succ])
  refine WalkTail.one (i := 7) rfl (by kernel_rfl) (by decide) (fun K hK => ?_)
  refine copy_step _ _ _ _ rfl rfl rfl rfl hr3 ?_
  refine hK.out _ _ trivial (fun hHeld => ?_)
  clear hK K
  (try simp only [Act.put, List.setIfInBounds_toArray, List.set_cons_zero, List.set_cons_succ])
  refine WalkTail.take (i := 8) (v := ?vz8) rfl (by kernel_rfl) (fun _ _ _ h => h) (Or.inl ⟨by rfl, ?hyz8⟩) (by assumption) ?_
  case hyz8 => (intro w hSw; (try dsimp only at hSw); go_simp; try with_reducible rfl)
  (try simp only [Act.put, List.setIfInBounds_toArray, List.set_cons_zero, List.set_cons_succ])
  refine WalkTail.last rfl (by kernel_rfl) (by kernel_rfl) (fun K hK => ?_)
  go_simp
  refine hK.out _ _ ?_
  clear hK K
  have hw2m : IntKind.i64.wrap (2 + (m : Int)) = 2 + (m : Int) := IntWalk.i64_in _ (by omega)
  have hca := cut_all ⟨w.heap.size, 0, none⟩ (m + 2) (m + 2) (Nat.le_refl _) (x := 2 + (m : Int)) (by omega)
  go_wp2_with fail
  go_ret
  have hsz2 : W2.heap.size = w.heap.size + 1 ∨ w.heap.size < W2.heap.size := .inr (by have h1 := H2.out.2.size; have h2 : W1.drew.heap.size = W1.heap.size := rfl; have h3 := H1.out.2.2.2; omega)
  refine ⟨some ⟨w.heap.size, 0, none⟩, m + 2, rfl, ?_, H3.out.2.2.next (show Fr (fun i => i = w.heap.size) W2 W3 from ⟨H3.out.2.1.os, H3.out.2.1.tape, H3.out.2.1.output, H3.out.2.1.size, H3.out.2.1.block⟩) (fun i hi e => by omega)⟩
  have hb := H3.out.1
  have hl := H.out.2.2
  have hrow : ((List.take 2 (List.take 0 cur.toList ++ List.map byteV [0, 255] ++ List.drop (0 + ([0, 255] : Bs).length) cur.toList).toArray.toList ++ r.map byteV ++ List.drop (2 + r.length) (List.take 0 cur.toList ++ List.map byteV [0, 255] ++ List.drop (0 + ([0, 255] : Bs).length) cur.toList).toArray.toList)) = (0 :: 255 :: r).map byteV := by
    simp only [List.take_zero, List.nil_append, List.map_cons, List.map_nil, List.toList_toArray, List.cons_append, List.take_succ_cons]
    rw [List.drop_of_length_le (by have := H1.out.2.1; simp; omega)]
    simp
  rw [hrow] at hb
  refine ⟨(0 :: 255 :: r).map byteV, ⟨by simp [hl, show Ty.u8.sz = 1 from rfl], .inr ⟨w.heap.size, m + 2, _, by rw [show (0 :: 255 :: r : Bs).length = m + 2 by simp [hl]], Nat.zero_le _, hb, by simp [hl], by unfold maxLen; omega, by simp [hl, show Ty.u8.sz = 1 from rfl], ?_⟩⟩, row_bytes _, fun k hk => by obtain rfl : w.heap.size = k := Option.some.inj hk; exact Nat.le_refl _⟩
  rw [List.toList_toArray, List.take_of_length_le (by simp [show Ty.u8.sz = 1 from rfl])]
end Go.Proofs.YtlmhphejgahfbaaGreatDoor
