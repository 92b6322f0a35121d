/- Texts of this claim, one behind the other: Sha2, Sha3, Chain, Ref1, Open, Laid. -/
import Derived.Test.YtlmhphejgahfbaaGreatDoorMrowledgerdeletes1
import Derived.StillTailTactics
import Derived.BigRegion
import Derived.Deep.RegionLaw
import Derived.Test.YtlmhphejgahfbaaGreatDoorProg
import Derived.Deep.QuietTactic
import Derived.BigQuiet
import Derived.Deep.RegionHeld3
import Derived.Deep.Slices
import Derived.Deep.Strs
import Derived.Test.YtlmhphejgahfbaaGreatDoorRows
import Derived.Lib.LaidTab
import Derived.ProofKit
import Derived.LaidMore
import Derived.Lay
/- SHA-256: the ring of words. -/
set_option linter.unusedVariables false
set_option linter.unusedSimpArgs false
namespace Go.Proofs.YtlmhphejgahfbaaGreatDoor
open Go.RowKit

/-- Words in an array's cells, from a place on. -/
structure Words (w : World) (b o n : Nat) (R : Nat → W32) : Prop where
  blk : ∃ cs tt, w.heap[b]? = some (.cells cs tt (0, 0)) ∧ o + n ≤ cs.size ∧ ∀ j, j < n → cs[o + j]? = some (.int .u32 (U (R j)))
theorem Words.lt {w : World} {b o n : Nat} {R : Nat → W32} (h : Words w b o n R) : b < w.heap.size := by obtain ⟨cs, tt, hb, _⟩ := h.blk; exact blk_lt hb
theorem Words.cell {w : World} {b o n : Nat} {R : Nat → W32} (h : Words w b o n R) {j : Nat} (hj : j < n) : w.cell? ⟨b, o + j, none⟩ = some (.int .u32 (U (R j))) := by
  obtain ⟨cs, tt, hb, _, hc⟩ := h.blk
  rw [blk_cell hb]; exact hc j hj
theorem Words.free {w : World} {b o n : Nat} {R : Nat → W32} (h : Words w b o n R) (j : Nat) : w.frozen? ⟨b, j, none⟩ = false := by
  obtain ⟨cs, tt, hb, _, _⟩ := h.blk
  exact blk_frozen hb j
theorem Words.fr {S : Nat → Prop} {w w' : World} {b o n : Nat} {R : Nat → W32} (h : Words w b o n R) (f : Fr S w w') (hn : ¬ S b) : Words w' b o n R := by
  obtain ⟨cs, tt, hb, h1, hc⟩ := h.blk
  exact ⟨cs, tt, f.blk hb hn, h1, hc⟩
def upd (R : Nat → W32) (i : Nat) (v : W32) : Nat → W32 := fun j => if j = i then v else R j
theorem Words.fr0 {w w' : World} {b o n : Nat} {R : Nat → W32} (h : Words w b o n R) (f : Fr No w w') : Words w' b o n R := h.fr f (fun f => f)
theorem Words.set {w : World} {b o n : Nat} {R : Nat → W32} (h : Words w b o n R) {i : Nat} (hi : i < n) (v : W32) : Words (w.setCell ⟨b, o + i, none⟩ (.int .u32 (U v))) b o n (upd R i v) := by
  obtain ⟨cs, tt, hb, h1, hc⟩ := h.blk
  refine ⟨_, tt, blk_set hb _ _, by simpa using h1, fun j hj => ?_⟩
  rw [Array.getElem?_setIfInBounds]
  unfold upd
  by_cases e : j = i
  · subst e; rw [if_pos rfl, if_pos (by omega), if_pos rfl]
  · rw [if_neg (by omega), if_neg e]; exact hc j hj

/-- The new word. -/
def sg0 (x : W32) : W32 := rr x 7 ^^^ rr x 18 ^^^ (x >>> 3)
def sg1 (x : W32) : W32 := rr x 17 ^^^ rr x 19 ^^^ (x >>> 10)
def nextW (R : Nat → W32) (i : Nat) : W32 := R (i % 16) + ((sg0 (R ((i + 1) % 16)) + R ((i + 9) % 16)) + sg1 (R ((i + 14) % 16)))

set_option maxHeartbeats 1000000 in
set_option maxRecDepth 100000 in
theorem word_old {w : World} {b : Nat} {R : Nat → W32} {i : Nat} (h : Words w b 0 16 R) (hi : i < 16) : Calls Tryz.prog 205 #[.pointer (some ⟨b, 0, none⟩), .int .i64 i] w fun e w' => e = .returned (.int .u32 (U (R i))) ∧ w' = w := by
  have c := h.cell hi
  rw [Nat.zero_add] at c
  have hi0 : (0 : Int) ≤ (i : Int) := Int.natCast_nonneg _
  have hi1 : (i : Int) < 16 := by omega
  have hm : (i : Int) % 16 = (i : Int) := by omega
  have ha : (⟨b, 0, none⟩ : Addr).add i = ⟨b, i, none⟩ := add0 b i
  clear h
  go_enter Tryz.func205, Tryz.ntmps205
  go_wp2
  go_ret
  exact ⟨rfl, rfl⟩

set_option maxHeartbeats 1000000 in
set_option maxRecDepth 100000 in
theorem word_new {w : World} {b : Nat} {R : Nat → W32} {i : Nat} (h : Words w b 0 16 R) (hi : 16 ≤ i) (hi2 : i < 64) : Calls Tryz.prog 205 #[.pointer (some ⟨b, 0, none⟩), .int .i64 i] w fun e w' => e = .returned (.int .u32 (U (nextW R i))) ∧ Words w' b 0 16 (upd R (i % 16) (nextW R i)) ∧ Fr (fun k => k = b) w w' := by
  have hi0 : (16 : Int) ≤ (i : Int) := by omega
  have hi1 : (i : Int) < 64 := by omega
  obtain ⟨p, hp⟩ : ∃ p, i % 16 = p := ⟨_, rfl⟩
  obtain ⟨p1, hp1⟩ : ∃ p, (i + 1) % 16 = p := ⟨_, rfl⟩
  obtain ⟨p9, hp9⟩ : ∃ p, (i + 9) % 16 = p := ⟨_, rfl⟩
  obtain ⟨p14, hp14⟩ : ∃ p, (i + 14) % 16 = p := ⟨_, rfl⟩
  have l0 : p < 16 := by omega
  have l1 : p1 < 16 := by omega
  have l9 : p9 < 16 := by omega
  have l14 : p14 < 16 := by omega
  have l0i : (p : Int) < 16 := by omega
  have l1i : (p1 : Int) < 16 := by omega
  have l9i : (p9 : Int) < 16 := by omega
  have l14i : (p14 : Int) < 16 := by omega
  have n0i : (0 : Int) ≤ (p : Int) := by omega
  have n1i : (0 : Int) ≤ (p1 : Int) := by omega
  have n9i : (0 : Int) ≤ (p9 : Int) := by omega
  have n14i : (0 : Int) ≤ (p14 : Int) := by omega
  have m0 : (i : Int) % 16 = (p : Int) := by omega
  have m1 : ((i : Int) + 1) % 16 = (p1 : Int) := by omega
  have m9 : ((i : Int) + 9) % 16 = (p9 : Int) := by omega
  have m14 : ((i : Int) + 14) % 16 = (p14 : Int) := by omega
  have s1 : IntKind.i64.wrap ((i : Int) + 1) = (i : Int) + 1 := IntWalk.i64_in _ (by omega)
  have s9 : IntKind.i64.wrap ((i : Int) + 9) = (i : Int) + 9 := IntWalk.i64_in _ (by omega)
  have s14 : IntKind.i64.wrap ((i : Int) + 14) = (i : Int) + 14 := IntWalk.i64_in _ (by omega)
  have t0 : (i : Int).tmod 16 = (p : Int) := by rw [Int.tmod_eq_emod_of_nonneg (by omega)]; exact m0
  have t1 : ((i : Int) + 1).tmod 16 = (p1 : Int) := by rw [Int.tmod_eq_emod_of_nonneg (by omega)]; exact m1
  have t9 : ((i : Int) + 9).tmod 16 = (p9 : Int) := by rw [Int.tmod_eq_emod_of_nonneg (by omega)]; exact m9
  have t14 : ((i : Int) + 14).tmod 16 = (p14 : Int) := by rw [Int.tmod_eq_emod_of_nonneg (by omega)]; exact m14
  have c0 := h.cell l0
  have c1 := h.cell l1
  have c9 := h.cell l9
  have c14 := h.cell l14
  have z0 := h.free p
  rw [Nat.zero_add] at c0 c1 c9 c14
  have a0 := add0 b p
  have a1 := add0 b p1
  have a9 := add0 b p9
  have a14 := add0 b p14
  have H := Lib.hid (And.intro h (And.intro hp (And.intro hp1 (And.intro hp9 hp14))))
  obtain ⟨x0, hx0⟩ : ∃ x, R p = x := ⟨_, rfl⟩
  obtain ⟨x1, hx1⟩ : ∃ x, R p1 = x := ⟨_, rfl⟩
  obtain ⟨x9, hx9⟩ : ∃ x, R p9 = x := ⟨_, rfl⟩
  obtain ⟨x14, hx14⟩ : ∃ x, R p14 = x := ⟨_, rfl⟩
  rw [hx0] at c0
  rw [hx1] at c1
  rw [hx9] at c9
  rw [hx14] at c14
  have HX := Lib.hid (And.intro hx0 (And.intro hx1 (And.intro hx9 hx14)))
  have r3 : (U x1).fdiv (2 ^ 3) = U (x1 >>> 3) := U_shr x1 3
  have q3 := shift_shr x1 3 3 rfl (by decide)
  have q10 := shift_shr x14 10 10 rfl (by decide)
  obtain ⟨y1, hy1⟩ : ∃ y, sg0 x1 = y := ⟨_, rfl⟩
  obtain ⟨y2, hy2⟩ : ∃ y, sg1 x14 = y := ⟨_, rfl⟩
  obtain ⟨v1, hv1⟩ : ∃ v, y1 + x9 = v := ⟨_, rfl⟩
  obtain ⟨v2, hv2⟩ : ∃ v, v1 + y2 = v := ⟨_, rfl⟩
  obtain ⟨v3, hv3⟩ : ∃ v, x0 + v2 = v := ⟨_, rfl⟩
  have d1 := U_add y1 x9
  have d2 := U_add v1 y2
  have d3 := U_add x0 v2
  rw [hv1] at d1
  rw [hv2] at d2
  rw [hv3] at d3
  have HN := Lib.hid (show nextW R i = v3 by unfold nextW; rw [H.out.2.1, H.out.2.2.1, H.out.2.2.2.1, H.out.2.2.2.2, HX.out.1, HX.out.2.1, HX.out.2.2.1, HX.out.2.2.2, hy1, hy2, hv1, hv2, hv3])
  have HS1 := Lib.hid (show ∀ w : World, Calls Tryz.prog 203 #[.int .u32 (U x1), .int .i64 7, .int .i64 18, .int .u32 (U (x1 >>> 3))] w fun e w' => e = .returned (.int .u32 (U y1)) ∧ w' = w by rw [← hy1]; exact spread_ok x1 (x1 >>> 3) 7 18 7 18 (by decide) (by decide) (by decide) (by decide))
  have HS2 := Lib.hid (show ∀ w : World, Calls Tryz.prog 203 #[.int .u32 (U x14), .int .i64 17, .int .i64 19, .int .u32 (U (x14 >>> 10))] w fun e w' => e = .returned (.int .u32 (U y2)) ∧ w' = w by rw [← hy2]; exact spread_ok x14 (x14 >>> 10) 17 19 17 19 (by decide) (by decide) (by decide) (by decide))
  clear hy1 hy2 hv1 hv2 hv3
  clear h hp hp1 hp9 hp14 hx0 hx1 hx9 hx14
  go_enter Tryz.func205, Tryz.ntmps205
  go_wp2_with fail
  go_quiet (fail)
  go_wp2_with fail
  obtain ⟨W, hW⟩ : ∃ W, W = w.drewN nq := ⟨_, rfl⟩
  have HW := Lib.hid (show Fr No w W by rw [hW]; exact (Fr.refl No w).drewN _)
  have c0 := HW.out.cell c0 (fun f => f)
  have c1 := HW.out.cell c1 (fun f => f)
  have c9 := HW.out.cell c9 (fun f => f)
  have c14 := HW.out.cell c14 (fun f => f)
  have z0 := (H.out.1.fr0 HW.out).free p
  rw [← hW]
  clear hW
  go_region_law
    (first
      | (go_simp; go_at_call_of 203 (Value.int IntKind.u32 (U x1)); refine (HS1.out _).mono ?_; rintro e w' ⟨rfl, rfl⟩)
      | (go_simp; go_at_call_of 203 (Value.int IntKind.u32 (U x14)); refine (HS2.out _).mono ?_; rintro e w' ⟨rfl, rfl⟩))
  all_goals
    go_wp2_with fail
    go_ret
    refine ⟨by rw [HN.out]; rfl, ?_, ?_⟩
    · rw [HN.out, H.out.2.1]
      have := (H.out.1.fr0 HW.out).set l0 v3
      rw [Nat.zero_add] at this
      exact this.fr0 ((Fr.refl No _).drew)
    · exact ((HW.out.mono fun _ _ f => f.elim).trans (Fr.set (F := fun k => k = b) (Fr.refl (fun k => k = b) W) ⟨b, p, none⟩ (.inl rfl) _ |>.mono fun k _ e => .inl e)).drew
end Go.Proofs.YtlmhphejgahfbaaGreatDoor
/- SHA-256: a block. -/
set_option linter.unusedVariables false
set_option linter.unusedSimpArgs false
namespace Go.Proofs.YtlmhphejgahfbaaGreatDoor
open Go.RowKit

def b32 (b : UInt8) : W32 := BitVec.ofNat 32 b.toNat
theorem b32_U (b : UInt8) : U (b32 b) = (b.toNat : Int) := by
  have := b.toNat_lt
  unfold U b32
  rw [BitVec.toNat_ofNat]
  omega
/-- One byte more into the ring. -/
def inB1 (R : Nat → W32) (k : Nat) (b : UInt8) : Nat → W32 := upd R (k / 4) ((R (k / 4) <<< 8) ||| b32 b)
def inAll (R : Nat → W32) : Nat → Bs → (Nat → W32)
  | _, [] => R
  | k, b :: p => inAll (inB1 R k b) (k + 1) p
theorem inAll_snoc (R : Nat → W32) (k : Nat) (p : Bs) (b : UInt8) : inAll R k (p ++ [b]) = inB1 (inAll R k p) (k + p.length) b := by
  induction p generalizing R k with
  | nil => rfl
  | cons a p ih => show inAll _ _ (p ++ [b]) = _; rw [ih]; simp only [List.length_cons]; rw [show k + 1 + p.length = k + (p.length + 1) by omega]; rfl
theorem u8_in {w : World} {F : Nat → Prop} {A : Option Addr} {xs : Bs} (h : Rd Ty.u8 w F A xs) {i : Nat} (hi : i < xs.length) : ∃ ad, A = some ad ∧ w.cell? (ad.add i) = some (.int .u8 (xs[i].toNat : Int)) := by
  obtain ⟨ad, c, e, hk, h0, _⟩ := h.get' hi (by decide)
  obtain rfl : c = _ := hk
  refine ⟨ad, e, ?_⟩
  have := h0 _ rfl
  rwa [show i * Ty.u8.sz = i from Nat.mul_one i] at this

/-- One round. -/
def SG1 (e : W32) : W32 := rr e 6 ^^^ rr e 11 ^^^ rr e 25
def SG0 (a : W32) : W32 := rr a 2 ^^^ rr a 13 ^^^ rr a 22
def rT (S : Nat → W32) (k w : W32) : W32 := S 7 + SG1 (S 4) + (S 6 ^^^ (S 4 &&& (S 5 ^^^ S 6))) + k + w
def rU (S : Nat → W32) : W32 := SG0 (S 0) + ((S 0 &&& S 1) ||| (S 2 &&& (S 0 ||| S 1)))
def rStep (S : Nat → W32) (k w : W32) : Nat → W32
  | 0 => rT S k w + rU S
  | 4 => S 3 + rT S k w
  | n + 1 => S n

/-- The rounds' numbers. -/
def KL : List Nat := [1116352408, 1899447441, 3049323471, 3921009573, 961987163, 1508970993, 2453635748, 2870763221, 3624381080, 310598401, 607225278, 1426881987, 1925078388, 2162078206, 2614888103, 3248222580, 3835390401, 4022224774, 264347078, 604807628, 770255983, 1249150122, 1555081692, 1996064986, 2554220882, 2821834349, 2952996808, 3210313671, 3336571891, 3584528711, 113926993, 338241895, 666307205, 773529912, 1294757372, 1396182291, 1695183700, 1986661051, 2177026350, 2456956037, 2730485921, 2820302411, 3259730800, 3345764771, 3516065817, 3600352804, 4094571909, 275423344, 430227734, 506948616, 659060556, 883997877, 958139571, 1322822218, 1537002063, 1747873779, 1955562222, 2024104815, 2227730452, 2361852424, 2428436474, 2756734187, 3204031479, 3329325298]
def Kc (i : Nat) : W32 := BitVec.ofNat 32 (KL.getD i 0)
def KV : Array Value := (KL.map fun (k : Nat) => Value.int .u32 (k : Int)).toArray
theorem KL_lt : ∀ k ∈ KL, k < 4294967296 := by decide
theorem Kc_U {i : Nat} (h : i < 64) : U (Kc i) = ((KL.getD i 0 : Nat) : Int) := by
  have hl : i < KL.length := h
  have := KL_lt _ (List.getElem_mem hl)
  unfold U Kc
  rw [List.getD_eq_getElem?_getD, List.getElem?_eq_getElem hl, BitVec.toNat_ofNat]
  simp only [Option.getD_some]
  omega
/-- The package's table. -/
def KAt (w : World) : Prop := ∀ i, i < 64 → w.cell? ⟨0, i, none⟩ = some (.int .u32 (U (Kc i)))
theorem KAt.fr {S : Nat → Prop} {w w' : World} (h : KAt w) (f : Fr S w w') (hn : ¬ S 0) : KAt w' := fun i hi => f.cell (h i hi) hn
theorem KAt.fr0 {w w' : World} (h : KAt w) (f : Fr No w w') : KAt w' := h.fr f (fun f => f)
theorem KV_at {i : Nat} (h : i < 64) : KV[i]? = some (.int .u32 (U (Kc i))) := by
  rw [Kc_U h]
  unfold KV
  have hl : i < KL.length := h
  rw [List.getElem?_toArray, List.getElem?_map, List.getElem?_eq_getElem hl, List.getD_eq_getElem?_getD, List.getElem?_eq_getElem hl]
  rfl
theorem run_load_K {w : World} (h : KAt w) : (Instr.loadAt 162 (.pointer (some ⟨0, 0, none⟩))).run Tryz.prog w = .ok (.agg KV) w := by
  have h1 := run_loadCells_list (P := Tryz.prog) w ⟨0, 0, none⟩ KV.toList (fun j v hv => by
    have hj : j < 64 := by have := (List.getElem?_eq_some_iff.1 hv).1; exact this
    rw [add0]
    rw [Array.getElem?_toList, KV_at hj] at hv
    rw [h j hj]; exact hv)
  have hl : KV.toList.length = 64 := rfl
  rw [hl] at h1
  simp only [Instr.loadAt, loadVar, Instr.sureAddr, Sem.run_bind, Sem.run_pure, Result.andThen_ok, Tryz.isAgg162, Tryz.sizeOf162, if_true, h1]
theorem run_index_K {i : Nat} (h : i < 64) (w : World) : (Instr.index 162 (.agg KV) (.int .i64 (i : Int))).run Tryz.prog w = .ok (.int .u32 (U (Kc i))) w := by
  have h1 := KV_at h
  have h0 : (0 : Int) ≤ (i : Int) ∧ (i : Int) < ((64 : Nat) : Int) := ⟨Int.natCast_nonneg _, by omega⟩
  simp only [Instr.index, asIntOf, Sem.run_bind, Sem.run_pure, Result.andThen_ok, run_underlying Tryz.underlying162, Tryz.sizeOf161]
  rw [if_pos h0]
  simp [part, Tryz.isAgg161, Tryz.sizeOf161, h1]

def ringNext (R : Nat → W32) (i : Nat) : Nat → W32 := if i < 16 then R else upd R (i % 16) (nextW R i)
def wordAt (R : Nat → W32) (i : Nat) : W32 := if i < 16 then R i else nextW R i
theorem word_ok {w : World} {b : Nat} {R : Nat → W32} {i : Nat} (h : Words w b 0 16 R) (hi : i < 64) : Calls Tryz.prog 205 #[.pointer (some ⟨b, 0, none⟩), .int .i64 i] w fun e w' => e = .returned (.int .u32 (U (wordAt R i))) ∧ Words w' b 0 16 (ringNext R i) ∧ Fr (fun k => k = b) w w' := by
  by_cases h16 : i < 16
  · refine (word_old h h16).mono ?_
    rintro e w' ⟨rfl, rfl⟩
    exact ⟨by unfold wordAt; rw [if_pos h16], by unfold ringNext; rw [if_pos h16]; exact h, Fr.refl _ _⟩
  · refine (word_new h (by omega) hi).mono ?_
    rintro e w' ⟨rfl, h1, h2⟩
    exact ⟨by unfold wordAt; rw [if_neg h16], by unfold ringNext; rw [if_neg h16]; exact h1, h2⟩
end Go.Proofs.YtlmhphejgahfbaaGreatDoor
/- Layer 12 (chain): what the program's functions on a chain do. -/
set_option linter.unusedVariables false
set_option linter.unusedSimpArgs false
namespace Go.Proofs.YtlmhphejgahfbaaGreatDoor
open Go.RowKit

theorem info_u8 : (Tryz.prog.info? 5).map (fun i => (i.zero, i.size, i.bytes)) = some (some (.int .u8 0), 1, 1) := by kernel_rfl
theorem info_ver : (Tryz.prog.info? 282).map (fun i => (i.zero, i.size, i.bytes)) = some (some (.agg #[.int .i64 0, .slice none 0 0, .bool false]), 3, 40) := by kernel_rfl

/-- bytes.Clone. -/
theorem clone_ok {w : World} {F : Nat → Prop} {A : Option Addr} {n c : Nat} {xs : Bs} (h : Rd Ty.u8 w F A xs) (hn : n = xs.length) (hl : xs.length ≤ 140737488355328) :
    Calls Tryz.prog 100 #[.slice A n c] w fun e w' => ∃ A1 c1, e = .returned (.slice A1 xs.length c1) ∧ Ow Ty.u8 5 w' (fun k => w.heap.size ≤ k) (.slice A1 xs.length c1) xs ∧ Fr No w w' := by
  subst hn
  have q22 : ∀ (w : World) (a : Option Addr) (n c n' c' : Nat), (binOp .eql 46 (.slice a n c) (.slice none n' c')).run Tryz.prog w = .ok (.bool a.isNone) w := fun w a n c n' c' => Lib.run_eql_slice_nil w _ _ a n c n' c' Tryz.underlying46
  obtain ⟨cs, hR, hA⟩ := (h.fr0 (Fr.below ((Below.refl w.heap.size w).alloc (Nat.le_refl _) (.cells #[] 5)))).at
  cases hA0 : A with
  | none =>
    obtain rfl : xs = [] := by
      cases xs with
      | nil => rfl
      | cons x xs =>
        obtain ⟨c', d, rfl, hc, _⟩ := hR
        obtain rfl : c' = _ := hc
        obtain ⟨ad, e, _⟩ := hA 0 _ rfl
        rw [hA0] at e; cases e
    go_enter Tryz.func100, Tryz.ntmps100
    go_wp2
    go_ret
    exact ⟨none, 0, rfl, Ow.nil, Fr.refl _ _⟩
  | some ad =>
    subst hA0
    have hown : Ow Ty.u8 5 (w.alloc (.cells #[] 5)) (fun k => w.heap.size ≤ k) (.slice (some ⟨w.heap.size, 0, none⟩) 0 0) ([] : Bs) :=
      ⟨[], World.ownsRow_made w #[] 0 (Nat.zero_le _) (Nat.zero_le _) rfl, rfl, fun k hk => by simp [Value.ownBlock] at hk; omega⟩
    have hR' : Row Ty.u8 (w.alloc (.cells #[] 5)) (fun i => w.heap.size ≤ i ∧ (Value.slice (some ⟨w.heap.size, 0, none⟩) 0 0).ownBlock ≠ some i) xs cs := hR.imp fun _ _ h => h
    have H := Lib.hid (And.intro hown (And.intro hR' hA))
    clear hown hR' hA hR h
    go_enter Tryz.func100, Tryz.ntmps100
    go_wp2_with (at_builtin; refine ow_append Ty.u8 H.out.1 _ _ (.int .u8 0) 1 rfl rfl Tryz.underlying46 info_u8 rfl (by decide) (by decide) rfl rfl rfl H.out.2.1 H.out.2.2 (by simp; omega) ?_; intro A1 c1 w1 hown1 hg hat)
    go_ret
    simp only [List.length_nil, Nat.zero_add, List.nil_append] at hown1 ⊢
    refine ⟨A1, c1, rfl, hown1.mono fun k hk _ => by simp at hk; omega, ?_⟩
    exact ((Fr.refl No w).alloc _).grown hg fun k hk => .inr (by simp [Value.ownBlock] at hk; omega)

/-- sort.Search, of a function that only reads (it may draw): how many there are ahead of the first one of which it says yes. -/
theorem search_ok (g : Nat) (caps : Array Value) (p : Nat → Bool) (n r : Nat) (w : World) (hn : n ≤ 1000000000) (hr : r ≤ n) (h0 : ∀ i, i < r → p i = false) (h1 : ∀ i, r ≤ i → i < n → p i = true)
    (he : ∀ args w, Sem.run Tryz.prog (callFunc g args) w = .ok (.enter g args) w)
    (hg : ∀ i m, i < n → Calls Tryz.prog g (#[.int .i64 (i : Int)] ++ caps) (w.drewN m) fun e w' => e = .returned (.bool (p i)) ∧ ∃ m', w' = w.drewN m') :
    Calls Tryz.prog 232 #[.int .i64 n, .func (.func g) #[] caps] w fun e w' => e = .returned (.int .i64 r) ∧ ∃ m, w' = w.drewN m := by
  have HG := Lib.hid hg
  have H0 := Lib.hid h0
  have H1 := Lib.hid h1
  clear hg h0 h1
  go_enter Tryz.func232, Tryz.ntmps232
  go_wp2
  go_loopw [5, 6] (fun i j wr => ∃ a b m : Nat, a ≤ r ∧ r ≤ b ∧ b ≤ n ∧ i = .int .i64 a ∧ j = .int .i64 b ∧ wr = w.drewN m) (fun i j _ => (intOf j).toNat - (intOf i).toNat)
  case atStart => exact ⟨0, n, 0, by omega, hr, by omega, rfl, rfl, rfl⟩
  case round =>
    obtain ⟨a, b, m, ha, hb, hbn, rfl, rfl, rfl⟩ := hrel
    by_cases hab : a < b
    · obtain ⟨k, hk⟩ : ∃ k : Nat, k = (a + b) / 2 := ⟨_, rfl⟩
      have ek : ((a : Int) + b) / 2 = (k : Int) := by omega
      have hkn : k < n := by omega
      have hlo : a ≤ k := by omega
      have hhi : k < b := by omega
      have HK := Lib.hid hk
      clear hk
      cases hp : p k with
      | true =>
        have hrk : r ≤ k := by
          rcases Nat.lt_or_ge k r with h | h
          · rw [H0.out k h] at hp; cases hp
          · exact h
        go_wp2_with (refine (HG.out k _ hkn).mono ?_; rintro e w' ⟨rfl, m', rfl⟩; rw [hp])
        go_roundw
        case rel => exact ⟨a, k, m', ha, hrk, by omega, rfl, rfl, rfl⟩
        case measure => simp [intOf]; omega
      | false =>
        have hrk : k < r := by
          rcases Nat.lt_or_ge k r with h | h
          · exact h
          · rw [H1.out k h hkn] at hp; cases hp
        go_wp2_with (refine (HG.out k _ hkn).mono ?_; rintro e w' ⟨rfl, m', rfl⟩; rw [hp])
        go_roundw
        case rel => exact ⟨k + 1, b, m', by omega, hb, hbn, by go_num, rfl, rfl⟩
        case measure => simp [intOf]; omega
    · obtain rfl : a = r := by omega
      go_wp2
      go_ret
      exact ⟨rfl, m, rfl⟩

/-- A chain behind a pointer; F bounds all its blocks. -/
def ChainAt (w : World) (F : Nat → Prop) (b : Nat) (c : Chn) : Prop :=
  F b ∧ c.Ok ∧ ∃ v, w.heap[b]? = some (.cells #[v, .int .i64 c.last] 280 (0, 0)) ∧ Ow tVer 282 w (fun k => F k ∧ k ≠ b) v c.l
theorem ChainAt.stab {w w' : World} {F : Nat → Prop} {b : Nat} {c : Chn} (h : ChainAt w F b c) (k : ∀ k, F k → k < w.heap.size → w'.heap[k]? = w.heap[k]?) : ChainAt w' F b c := by
  obtain ⟨hf, ho, v, hb, hw⟩ := h
  exact ⟨hf, ho, v, (k b hf (blk_lt hb)).trans hb, hw.stab fun i hi hl => k i hi.1 hl⟩
theorem ChainAt.fr {S : Nat → Prop} {w w' : World} {F : Nat → Prop} {b : Nat} {c : Chn} (h : ChainAt w F b c) (f : Fr S w w') (hd : ∀ k, F k → ¬ S k) : ChainAt w' F b c := h.stab fun k hk hl => f.block k hl (hd k hk)
theorem ChainAt.fr0 {w w' : World} {F : Nat → Prop} {b : Nat} {c : Chn} (h : ChainAt w F b c) (f : Fr No w w') : ChainAt w' F b c := h.stab fun k hk hl => f.block k hl (fun f => f)
theorem ChainAt.mono {w : World} {F G : Nat → Prop} {b : Nat} {c : Chn} (h : ChainAt w F b c) (k : ∀ k, F k → k < w.heap.size → G k) : ChainAt w G b c := by
  obtain ⟨hf, ho, v, hb, hw⟩ := h
  exact ⟨k b hf (blk_lt hb), ho, v, hb, hw.mono fun i hi hl => ⟨k i hi.1 hl, hi.2⟩⟩

theorem chain_new (w : World) : Calls Tryz.prog 144 #[] w fun e w' => ∃ b, e = .returned (.pointer (some ⟨b, 0, none⟩)) ∧ ChainAt w' (fun k => w.heap.size ≤ k) b Chn.empty ∧ Fr No w w' := by
  go_enter Tryz.func144, Tryz.ntmps144
  go_wp2
  go_ret
  refine ⟨w.heap.size, rfl, ⟨Nat.le_refl _, ⟨List.Pairwise.nil, fun v hv => by cases hv⟩, _, heap_alloc_new w _, Ow.nil⟩, (Fr.refl No w).alloc _⟩

theorem chain_len_nil (w : World) : Calls Tryz.prog 153 #[.pointer none] w fun e w' => e = .returned (.int .i64 0) ∧ w' = w := by
  go_enter Tryz.func153, Tryz.ntmps153
  go_wp2
  go_ret
  exact ⟨rfl, rfl⟩
theorem chain_len {w : World} {F : Nat → Prop} {b : Nat} {c : Chn} (h : ChainAt w F b c) : Calls Tryz.prog 153 #[.pointer (some ⟨b, 0, none⟩)] w fun e w' => e = .returned (.int .i64 c.l.length) ∧ w' = w := by
  obtain ⟨hf, ho, v, hb, hw⟩ := h
  obtain ⟨A, cp, rfl, hcp, hr⟩ := hw.slice
  have c0 := blk_cell hb 0
  clear hw ho hb hr
  simp at c0
  go_enter Tryz.func153, Tryz.ntmps153
  go_wp2
  go_ret
  exact ⟨rfl, rfl⟩
theorem chain_last_nil (w : World) : Calls Tryz.prog 181 #[.pointer none] w fun e w' => e = .returned (.int .i64 0) ∧ w' = w := by
  go_enter Tryz.func181, Tryz.ntmps181
  go_wp2
  go_ret
  exact ⟨rfl, rfl⟩
theorem chain_last {w : World} {F : Nat → Prop} {b : Nat} {c : Chn} (h : ChainAt w F b c) : Calls Tryz.prog 181 #[.pointer (some ⟨b, 0, none⟩)] w fun e w' => e = .returned (.int .i64 c.last) ∧ w' = w := by
  obtain ⟨hf, ho, v, hb, hw⟩ := h
  have c0 := blk_cell hb 1
  clear hw ho hb
  simp at c0
  go_enter Tryz.func181, Tryz.ntmps181
  go_wp2
  go_ret
  exact ⟨rfl, rfl⟩

/-- The function that seen hands to the search. -/
theorem chain_seen1 {w : World} {F : Nat → Prop} {b b1 b2 : Nat} {c : Chn} {a : Int} {i : Nat} (h : ChainAt w F b c) (h1 : w.cell? ⟨b1, 0, none⟩ = some (.pointer (some ⟨b, 0, none⟩))) (h2 : w.cell? ⟨b2, 0, none⟩ = some (.int .i64 a)) (hi : i < c.l.length) :
    Calls Tryz.prog 233 #[.int .i64 i, .pointer (some ⟨b1, 0, none⟩), .pointer (some ⟨b2, 0, none⟩)] w fun e w' => e = .returned (.bool (decide (a < c.l[i].at_))) ∧ ∃ m, w' = w.drewN m := by
  obtain ⟨hf, ho, v, hb, hw⟩ := h
  obtain ⟨A, cp, rfl, hcp, hr⟩ := hw.slice
  obtain ⟨ad, cs, rfl, hk, e0, e1⟩ := hr.get' hi (by decide)
  obtain ⟨A', c', rfl, -, -⟩ := tVer_open hk
  have x0 := e0 _ rfl
  simp only [show tVer.sz = 3 from rfl] at x0
  have c0 := blk_cell hb 0
  have hi0 : (0 : Int) ≤ (i : Int) := Int.natCast_nonneg _
  have hi1 : (i : Int) < (c.l.length : Int) := by omega
  simp at c0
  clear hw ho hb hr hk e0 e1
  generalize c.l[i].at_ = y at x0 ⊢
  generalize c.l.length = n at *
  go_enter Tryz.func233, Tryz.ntmps233
  go_wp2
  go_quiet (fail)
  go_wp2
  go_ret
  exact ⟨rfl, _, rfl⟩

theorem seen_le (c : Chn) (a : Int) : c.seen a ≤ c.l.length := by
  unfold Chn.seen
  exact (List.takeWhile_sublist _).length_le
theorem takeWhile_lt {α : Type} (p : α → Bool) (l : List α) (i : Nat) (h : i < (l.takeWhile p).length) (h' : i < l.length) : p l[i] = true := by
  induction l generalizing i with
  | nil => simp at h
  | cons x l ih =>
    rw [List.takeWhile_cons] at h
    split at h
    · cases i with
      | zero => simpa
      | succ i => simpa using ih i (by simpa using h) (by simpa using h')
    · simp at h
theorem takeWhile_at {α : Type} (p : α → Bool) (l : List α) (h : (l.takeWhile p).length < l.length) : p (l[(l.takeWhile p).length]) = false := by
  induction l with
  | nil => simp at h
  | cons x l ih =>
    by_cases hx : p x = true
    · have e : (x :: l).takeWhile p = x :: l.takeWhile p := by rw [List.takeWhile_cons, if_pos hx]
      simp only [e, List.length_cons, List.getElem_cons_succ] at h ⊢
      exact ih (by simpa using h)
    · have e : (x :: l).takeWhile p = [] := by rw [List.takeWhile_cons, if_neg hx]
      simp only [e, List.length_nil, List.getElem_cons_zero]
      simpa using hx
theorem seen_lo (c : Chn) (a : Int) (i : Nat) (h : i < c.seen a) (h' : i < c.l.length) : c.l[i].at_ ≤ a := by
  simpa using takeWhile_lt (fun v : Ver => decide (v.at_ ≤ a)) c.l i h h'
theorem seen_hi (c : Chn) (ho : c.Ok) (a : Int) (i : Nat) (h : c.seen a ≤ i) (h' : i < c.l.length) : a < c.l[i].at_ := by
  have h0 : c.seen a < c.l.length := by omega
  have h1 := takeWhile_at (fun v : Ver => decide (v.at_ ≤ a)) c.l h0
  have h2 : a < (c.l[c.seen a]'h0).at_ := Int.not_le.1 (of_decide_eq_false h1)
  rcases Nat.lt_or_ge (c.seen a) i with h3 | h3
  · have := List.pairwise_iff_getElem.1 ho.1 (c.seen a) i h0 h' h3
    omega
  · have e : c.seen a = i := by omega
    subst e
    exact h2

theorem chain_seen {w : World} {F : Nat → Prop} {b : Nat} {c : Chn} {a : Int} (h : ChainAt w F b c) (hl : c.l.length ≤ 1000000000) :
    Calls Tryz.prog 202 #[.pointer (some ⟨b, 0, none⟩), .int .i64 a] w fun e w' => e = .returned (.int .i64 ((c.seen a : Int) - 1)) ∧ Fr No w w' := by
  have H : ∀ m, Fr No w (((w.alloc (.cells #[.pointer (some ⟨b, 0, none⟩)] 224)).alloc (.cells #[.int .i64 a] 2)).drewN m) := fun m => (((Fr.refl No w).alloc _).alloc _).drewN m
  have hs := search_ok 233 #[.pointer (some ⟨w.heap.size, 0, none⟩), .pointer (some ⟨w.heap.size + 1, 0, none⟩)] (fun i => if h : i < c.l.length then decide (a < c.l[i].at_) else true) c.l.length (c.seen a)
    ((w.alloc (.cells #[.pointer (some ⟨b, 0, none⟩)] 224)).alloc (.cells #[.int .i64 a] 2)) hl (seen_le c a)
    (fun i hi => by
      have hi' : i < c.l.length := Nat.lt_of_lt_of_le hi (seen_le c a)
      have := seen_lo c a i hi hi'
      simp only [dif_pos hi']; exact decide_eq_false (by omega))
    (fun i hi hi' => by
      have := seen_hi c h.2.1 a i hi hi'
      simp only [dif_pos hi']; exact decide_eq_true this)
    Tryz.call233
    (fun i m hi => by
      have := chain_seen1 (b1 := w.heap.size) (b2 := w.heap.size + 1) (a := a) (h.fr0 (H m)) (cell_two1 _ _ _ _) (cell_two2 _ _ _ _) hi
      simp only [hi, dif_pos]
      exact this.mono fun e w' ⟨h1, m', h2⟩ => ⟨h1, m + m', by rw [h2]; simp⟩)
  have hc := chain_len (h.fr0 (H 0))
  have HS := Lib.hid (And.intro hs hc)
  have hn : (c.seen a : Int) ≤ c.l.length := Int.ofNat_le.2 (seen_le c a)
  have hn2 : (c.l.length : Int) ≤ 1000000000 := by omega
  have hn0 : (0 : Int) ≤ c.seen a := Int.natCast_nonneg _
  clear hs hc
  generalize c.seen a = r at *
  go_enter Tryz.func202, Tryz.ntmps202
  go_wp2_with (first
    | (go_at_call 153; refine HS.out.2.mono ?_; rintro e w' ⟨rfl, rfl⟩)
    | (go_at_call 232; refine HS.out.1.mono ?_; rintro e w' ⟨rfl, m, rfl⟩))
  go_ret
  exact ⟨rfl, H m⟩
end Go.Proofs.YtlmhphejgahfbaaGreatDoor
/- Reference 1 (value): Join, Bytes, Rise. -/
set_option linter.unusedVariables false
set_option linter.unusedSimpArgs false
namespace Go.Proofs.YtlmhphejgahfbaaGreatDoor
open Go.RowKit

theorem blk_two1 (w : World) (o o' : Obj) : ((w.alloc o).alloc o').heap[w.heap.size]? = some o := by
  rw [Below.heap_alloc _ _ _ (by simp)]; exact heap_alloc_new w o
theorem blk_two2 (w : World) (o o' : Obj) : ((w.alloc o).alloc o').heap[w.heap.size + 1]? = some o' := by
  have := heap_alloc_new (w.alloc o) o'; rwa [World.size_alloc] at this
theorem Rd.set2 {α : Type} {t : Ty α} {w : World} {F : Nat → Prop} {A : Option Addr} {xs : List α} (h : Rd t w F A xs) (p : Addr) (hp : ¬ F p.block) (u : Value) : Rd t (w.setCell p u) F A xs :=
  h.stab fun k hk _ => Below.heap_setCell _ _ _ _ (by rintro rfl; exact hp hk)
theorem u8_at {w : World} {F : Nat → Prop} {A : Option Addr} {xs : Bs} (h : Rd Ty.u8 w F A xs) {i : Nat} (hi : i < xs.length) : ∃ ad, A = some ad ∧ w.cell? (ad.add i) = some (.int .u8 xs[i].toNat) := by
  obtain ⟨ad, c, e, hk, e0, _⟩ := h.get' hi (by decide)
  obtain rfl : c = _ := hk
  have := e0 _ rfl
  rw [show Ty.u8.sz = 1 from rfl, Nat.mul_one] at this
  exact ⟨ad, e, this⟩

theorem ref_join {w : World} {F : Nat → Prop} {A B : Option Addr} {c d : Nat} {xs ys : Bs} (h : Rd Ty.u8 w F A xs) (k : Rd Ty.u8 w F B ys) (hl : xs.length + ys.length ≤ 140737488355328) :
    Calls Tryz.prog 93 #[.slice A xs.length c, .slice B ys.length d] w fun e w' => ∃ A1 c1, e = .returned (.slice A1 (xs ++ ys).length c1) ∧ Ow Ty.u8 5 w' (fun k => w.heap.size ≤ k) (.slice A1 (xs ++ ys).length c1) (xs ++ ys) ∧ Fr No w w' := by
  rw [List.length_append]
  obtain ⟨cs, hR, hA⟩ := h.at
  have hR' : Row Ty.u8 w (fun i => w.heap.size ≤ i ∧ (Value.slice none 0 0).ownBlock ≠ some i) xs cs := hR.imp fun _ _ h => h
  have H := Lib.hid (And.intro hR' (And.intro hA k))
  clear hR hR' hA h k
  go_enter Tryz.func93, Tryz.ntmps93
  go_wp2_with (first
    | (at_builtin; refine ow_append Ty.u8 (Ow.nil (F := fun i => w.heap.size ≤ i)) _ _ (.int .u8 0) 1 rfl rfl Tryz.underlying46 info_u8 rfl (by decide) (by decide) rfl rfl rfl H.out.1 H.out.2.1 (by simp; omega) ?_; intro A1 c1 w1 hown1 hg hat
       simp only [List.length_nil, Nat.zero_add, List.nil_append] at hown1 ⊢
       have hf1 : Fr No w w1 := (Fr.refl No w).grown hg fun k hk => by simp [Value.ownBlock] at hk
       obtain ⟨ds, hS, hB⟩ := (H.out.2.2.fr0 hf1).at
       have H1 := Lib.hid (And.intro hown1 (And.intro hf1 (And.intro hS hB)))
       clear hown1 hg hat hf1 hS hB)
    | (at_builtin; refine ow_append Ty.u8 H1.out.1 _ _ (.int .u8 0) 1 rfl rfl Tryz.underlying46 info_u8 rfl (by decide) (by decide) rfl rfl rfl (H1.out.2.2.1.imp fun _ _ h => h) H1.out.2.2.2 (by omega) ?_; intro A2 c2 w2 hown2 hg2 hat2
       have H2 := Lib.hid (And.intro hown2 hg2)
       clear hown2 hg2 hat2))
  go_ret
  refine ⟨A2, c2, rfl, ?_, ?_⟩
  · exact H2.out.1.mono fun k hk _ => by
      have := H1.out.2.1.size
      rcases hk with (hk | hk) | hk <;> omega
  · refine H1.out.2.1.grown H2.out.2 fun k hk => ?_
    have := H1.out.1.own hk
    exact .inr (by rcases this.1 with h | h <;> omega)

theorem drewN_drewN (w : World) (m n : Nat) : (w.drewN m).drewN n = w.drewN (m + n) := by simp [World.drewN, Nat.add_assoc]
end Go.Proofs.YtlmhphejgahfbaaGreatDoor
/- What an argument reads as, opened to a list. -/
set_option linter.unusedVariables false
set_option linter.unusedSimpArgs false
namespace Go.Proofs.YtlmhphejgahfbaaGreatDoor
open Go.RowKit Go.Deep

abbrev Old (w : World) : Nat → Prop := fun i => i < w.heap.size
/-- Whatever reads at the type e is an element of t. -/
def Opens {α : Type} (P : Program) (t : Ty α) (e : TypeId) : Prop :=
  P.cellsOf e = t.sz ∧ ∀ (H : Type) (enc : TypeId × Value → H) (w : World) (base : Nat) (spare : Nat → Bool) (held : Bool) (fuel : Nat) (cs : List Value) (x : DataW H × List MemPlace), DataW.trod enc P w base spare held fuel e cs = some x → ∃ v : α, t.K w (Old w) v cs

section
variable {P : Program} {e : TypeId}
theorem Opens.bool (hc : P.cellsOf e = 1) (ht : P.underlying e = some .bool) : Opens P Ty.bool e := by
  refine ⟨hc, fun H enc w base spare held fuel cs x h => ?_⟩
  obtain ⟨b, rfl, _⟩ := DataW.trod_bool ht h
  exact ⟨b, rfl⟩
theorem Opens.int {k : IntKind} (hc : P.cellsOf e = 1) (ht : P.underlying e = some (.int k)) : Opens P (Ty.int k) e := by
  refine ⟨hc, fun H enc w base spare held fuel cs x h => ?_⟩
  obtain ⟨n, rfl, _⟩ := DataW.trod_int ht h
  exact ⟨n, rfl⟩
theorem Opens.u8 (hc : P.cellsOf e = 1) (ht : P.underlying e = some (.int .u8)) : Opens P Ty.u8 e := by
  refine ⟨hc, fun H enc w base spare held fuel cs x h => ?_⟩
  obtain ⟨n, rfl, _, hw⟩ := DataW.trod_int ht h
  have h1 : 0 ≤ n ∧ n ≤ 255 := by
    unfold Lit.wf at hw
    simp [IntKind.wrap, IntKind.signed, IntKind.bits] at hw
    have a := hw.1
    have b := hw.2
    simp [IntKind.min, IntKind.max, IntKind.signed, IntKind.bits] at a b
    omega
  refine ⟨UInt8.ofNat n.toNat, ?_⟩
  show [Value.int .u8 n] = [.int .u8 ((UInt8.ofNat n.toNat).toNat : Int)]
  have : ((UInt8.ofNat n.toNat).toNat : Int) = n := by
    rw [UInt8.toNat_ofNat']
    omega
  rw [this]
theorem Opens.str (hc : P.cellsOf e = 1) (ht : P.underlying e = some .string) : Opens P Ty.str e := by
  refine ⟨hc, fun H enc w base spare held fuel cs x h => ?_⟩
  obtain ⟨s, rfl, _⟩ := DataW.trod_string ht h
  exact ⟨s, rfl⟩
theorem Opens.slice {α : Type} {t : Ty α} {T : TypeId} (O : Opens P t e) (hc : P.cellsOf T = 1) (ht : P.underlying T = some (.slice e)) : Opens P (Ty.slice t) T := by
  refine ⟨hc, fun H enc w base spare held fuel cs x h => ?_⟩
  rcases open_slice ht h with ⟨rfl, _⟩ | ⟨a, len, cap, m, n, D, Pl, rfl, hb, hl, hm, hmm, rfl, hx⟩
  · exact ⟨[], none, 0, rfl, Nat.le_refl _, Rd.nil⟩
  · have hlm : len ≤ m := by rw [hmm]; split <;> omega
    rw [O.1] at hx
    have hall : ∀ k, k ≤ len → ∃ (xs : List α) (cs : List Value), xs.length = k ∧ Row t w (Old w) xs cs ∧ ∀ j u, cs[j]? = some u → w.cell? (a.add j) = some u := by
      intro k
      induction k with
      | zero => exact fun _ => ⟨[], [], rfl, rfl, fun j u hu => by simp at hu⟩
      | succ k ih =>
        intro hk
        obtain ⟨xs, cs, h1, h2, h3⟩ := ih (by omega)
        obtain ⟨cs', h4, h5⟩ := hx k (by omega)
        obtain ⟨v, hv⟩ := O.2 H enc w base spare held n cs' _ h5
        obtain ⟨_, h6, h7⟩ := World.cells?_some h4
        refine ⟨xs ++ [v], cs ++ cs', by simp [h1], h2.append (Row.single hv), fun j u hu => ?_⟩
        have hlen := h2.len
        rcases Nat.lt_or_ge j cs.length with hj | hj
        · rw [List.getElem?_append_left hj] at hu
          exact h3 j u hu
        · rw [List.getElem?_append_right hj] at hu
          have hj' : j - cs.length < t.sz := by have := (List.getElem?_eq_some_iff.1 hu).1; omega
          have := h7 _ hj'
          rw [Go.Deep.add_add, hu] at this
          rw [← this]
          congr 2
          rw [hlen, h1] at hj ⊢
          omega
    obtain ⟨xs, cs, h1, h2, h3⟩ := hall len (Nat.le_refl _)
    refine ⟨xs, some a, cap, by rw [h1], by omega, by rw [h1]; unfold Go.maxLen at hm; omega, cs, h2, fun j u hu => ⟨a, rfl, ?_, h3 j u hu⟩⟩
    have := World.block_lt_of_cell? w _ (h3 j u hu)
    rwa [add_block] at this
theorem open_top {α : Type} {t : Ty α} {T : TypeId} {H : Type} {enc : TypeId × Value → H} {w : World} {base : Nat} {spare : Nat → Bool} {held : Bool} {a : Option Addr} {len cap : Nat} {d : DataW H} {ps : List MemPlace} (O : Opens P (Ty.slice t) T)
    (h : DataW.Trod enc P w base spare held T (.slice a len cap) d ps) : ∃ xs : List α, len = xs.length ∧ len ≤ cap ∧ Rd t w (Old w) a xs := by
  obtain ⟨fuel, hf⟩ := h
  obtain ⟨xs, A, c, e, h1, h2⟩ := O.2 H enc w base spare held fuel _ _ hf
  simp [Value.cells] at e
  obtain ⟨rfl, rfl, rfl⟩ := e
  exact ⟨xs, rfl, h1, h2⟩
end
end Go.Proofs.YtlmhphejgahfbaaGreatDoor
/- The listed variables: a start that holds them; the rounds' numbers. -/
set_option linter.unusedVariables false
set_option linter.unusedSimpArgs false
namespace Go.Proofs.YtlmhphejgahfbaaGreatDoor
open Go.RowKit Go.Deep

theorem own : ownKnob Tryz.prog.godebug = none := by kernel_rfl
theorem laidOut : laidOutB Tryz.prog = true := by kernel_rfl
abbrev lay20 : List (String × DataW Unit) := [("unicode/utf8.acceptRanges", Rows.laid_unicode_utf8_acceptRanges), ("countinghouse/sha.round", Rows.laid_countinghouse_sha_round), ("unicode/utf8.first", Rows.laid_unicode_utf8_first)]
set_option maxRecDepth 100000 in
theorem laid_met (os : Os) (args : Array Value) : laidMetH Tryz.prog lay20 ((World.laidAll Tryz.prog os lay20).forCall (fun _ _ => 0) ⟨#[], args, []⟩).memory := by
  rw [MakeChecks.laidMetH_plain _ _ _ (by kernel_rfl)]
  exact laidMet_laidAll _ (by kernel_rfl) (by kernel_rfl)
def kNums : List Int := KL.map fun (k : Nat) => (k : Int)
theorem laid_eq : (Rows.laid_countinghouse_sha_round (H := Unit)) = Lib.tabData .u32 kNums := by rfl
theorem gRound : Tryz.prog.globalNamed "countinghouse/sha.round" = some 0 := by kernel_rfl
theorem tRound : (Tryz.prog.globals[0]?).map (·.type) = some 162 := by kernel_rfl
theorem kat_of_laid {W : World} (h : laidMetH Tryz.prog lay20 W) : KAt W := by
  rw [MakeChecks.laidMetH_plain _ _ _ (by kernel_rfl)] at h
  have ht : Lib.TabIs Tryz.prog W "countinghouse/sha.round" .u32 kNums := by
    obtain ⟨ps, ⟨g0, t0, cs0, fuel0, p0, q0, _, _, _, _, ⟨g', t', cs, fuel, p, q, hg', ht', hvar, hd, _, _⟩, _⟩, _⟩ := h
    obtain rfl := Option.some.inj (gRound.symm.trans hg')
    obtain rfl := Option.some.inj (tRound.symm.trans ht')
    unfold Lib.TabIs
    rw [laid_eq] at hd
    rw [hvar, ← Lib.cells_of_tab Tryz.underlying162 Tryz.underlying161 (by kernel_rfl) (by kernel_rfl) hd]
  intro i hi
  have := World.var?_cell gRound ht i
  rw [this]
  have hl : i < KL.length := hi
  rw [List.getElem?_toArray, List.getElem?_map]
  unfold kNums
  rw [List.getElem?_map, List.getElem?_eq_getElem hl, Kc_U hi, List.getD_eq_getElem?_getD, List.getElem?_eq_getElem hl]
  rfl
theorem u8_range {n : Int} (hw : (Lit.int .u8 n).wf = true) : 0 ≤ n ∧ n ≤ 255 := by
  unfold Lit.wf at hw
  simp [IntKind.wrap, IntKind.signed, IntKind.bits] at hw
  have a := hw.1
  have b := hw.2
  simp [IntKind.min, IntKind.max, IntKind.signed, IntKind.bits] at a b
  omega
end Go.Proofs.YtlmhphejgahfbaaGreatDoor
