/- SHA-256: a block. -/
import Derived.Test.YtfaooohenicfbaaGreatDoorSha2
set_option linter.unusedVariables false
set_option linter.unusedSimpArgs false
namespace Go.Proofs.YtfaooohenicfbaaGreatDoor
open Go.RowKit

abbrev Bs := List UInt8
def b32 (b : UInt8) : W32 := BitVec.ofNat 32 b.toNat
theorem b32_U (b : UInt8) : U (b32 b) = (b.toNat : Int) := by
  have := b.toNat_lt
  unfold U b32
  rw [BitVec.toNat_ofNat]
  omega
/-- One byte more into the ring. -/
def inB1 (R : Nat → W32) (k : Nat) (b : UInt8) : Nat → W32 := upd R (k / 4) ((R (k / 4) <<< 8) ||| b32 b)
def inAll (R : Nat → W32) : Nat → Bs → (Nat → W32)
  | _, [] => R
  | k, b :: p => inAll (inB1 R k b) (k + 1) p
theorem inAll_snoc (R : Nat → W32) (k : Nat) (p : Bs) (b : UInt8) : inAll R k (p ++ [b]) = inB1 (inAll R k p) (k + p.length) b := by
  induction p generalizing R k with
  | nil => rfl
  | cons a p ih => show inAll _ _ (p ++ [b]) = _; rw [ih]; simp only [List.length_cons]; rw [show k + 1 + p.length = k + (p.length + 1) by omega]; rfl
theorem u8_in {w : World} {F : Nat → Prop} {A : Option Addr} {xs : Bs} (h : Rd Ty.u8 w F A xs) {i : Nat} (hi : i < xs.length) : ∃ ad, A = some ad ∧ w.cell? (ad.add i) = some (.int .u8 (xs[i].toNat : Int)) := by
  obtain ⟨ad, c, e, hk, h0, _⟩ := h.get' hi (by decide)
  obtain rfl : c = _ := hk
  refine ⟨ad, e, ?_⟩
  have := h0 _ rfl
  rwa [show i * Ty.u8.sz = i from Nat.mul_one i] at this

/-- One round. -/
def SG1 (e : W32) : W32 := rr e 6 ^^^ rr e 11 ^^^ rr e 25
def SG0 (a : W32) : W32 := rr a 2 ^^^ rr a 13 ^^^ rr a 22
def rT (S : Nat → W32) (k w : W32) : W32 := S 7 + SG1 (S 4) + (S 6 ^^^ (S 4 &&& (S 5 ^^^ S 6))) + k + w
def rU (S : Nat → W32) : W32 := SG0 (S 0) + ((S 0 &&& S 1) ||| (S 2 &&& (S 0 ||| S 1)))
def rStep (S : Nat → W32) (k w : W32) : Nat → W32
  | 0 => rT S k w + rU S
  | 4 => S 3 + rT S k w
  | n + 1 => S n

/-- The rounds' numbers. -/
def KL : List Nat := [1116352408, 1899447441, 3049323471, 3921009573, 961987163, 1508970993, 2453635748, 2870763221, 3624381080, 310598401, 607225278, 1426881987, 1925078388, 2162078206, 2614888103, 3248222580, 3835390401, 4022224774, 264347078, 604807628, 770255983, 1249150122, 1555081692, 1996064986, 2554220882, 2821834349, 2952996808, 3210313671, 3336571891, 3584528711, 113926993, 338241895, 666307205, 773529912, 1294757372, 1396182291, 1695183700, 1986661051, 2177026350, 2456956037, 2730485921, 2820302411, 3259730800, 3345764771, 3516065817, 3600352804, 4094571909, 275423344, 430227734, 506948616, 659060556, 883997877, 958139571, 1322822218, 1537002063, 1747873779, 1955562222, 2024104815, 2227730452, 2361852424, 2428436474, 2756734187, 3204031479, 3329325298]
def Kc (i : Nat) : W32 := BitVec.ofNat 32 (KL.getD i 0)
def KV : Array Value := (KL.map fun (k : Nat) => Value.int .u32 (k : Int)).toArray
theorem KL_lt : ∀ k ∈ KL, k < 4294967296 := by decide
theorem Kc_U {i : Nat} (h : i < 64) : U (Kc i) = ((KL.getD i 0 : Nat) : Int) := by
  have hl : i < KL.length := h
  have := KL_lt _ (List.getElem_mem hl)
  unfold U Kc
  rw [List.getD_eq_getElem?_getD, List.getElem?_eq_getElem hl, BitVec.toNat_ofNat]
  simp only [Option.getD_some]
  omega
/-- The package's table. -/
def KAt (w : World) : Prop := ∀ i, i < 64 → w.cell? ⟨0, i, none⟩ = some (.int .u32 (U (Kc i)))
theorem KAt.fr {S : Nat → Prop} {w w' : World} (h : KAt w) (f : Fr S w w') (hn : ¬ S 0) : KAt w' := fun i hi => f.cell (h i hi) hn
theorem KAt.fr0 {w w' : World} (h : KAt w) (f : Fr No w w') : KAt w' := h.fr f (fun f => f)
theorem KV_at {i : Nat} (h : i < 64) : KV[i]? = some (.int .u32 (U (Kc i))) := by
  rw [Kc_U h]
  unfold KV
  have hl : i < KL.length := h
  rw [List.getElem?_toArray, List.getElem?_map, List.getElem?_eq_getElem hl, List.getD_eq_getElem?_getD, List.getElem?_eq_getElem hl]
  rfl
theorem run_load_K {w : World} (h : KAt w) : (Instr.loadAt 222 (.pointer (some ⟨0, 0, none⟩))).run Tryz.prog w = .ok (.agg KV) w := by
  have h1 := run_loadCells_list (P := Tryz.prog) w ⟨0, 0, none⟩ KV.toList (fun j v hv => by
    have hj : j < 64 := by have := (List.getElem?_eq_some_iff.1 hv).1; exact this
    rw [add0]
    rw [Array.getElem?_toList, KV_at hj] at hv
    rw [h j hj]; exact hv)
  have hl : KV.toList.length = 64 := rfl
  rw [hl] at h1
  simp only [Instr.loadAt, loadVar, Instr.sureAddr, Sem.run_bind, Sem.run_pure, Result.andThen_ok, Tryz.isAgg222, Tryz.sizeOf222, if_true, h1]
theorem run_index_K {i : Nat} (h : i < 64) (w : World) : (Instr.index 222 (.agg KV) (.int .i64 (i : Int))).run Tryz.prog w = .ok (.int .u32 (U (Kc i))) w := by
  have h1 := KV_at h
  have h0 : (0 : Int) ≤ (i : Int) ∧ (i : Int) < ((64 : Nat) : Int) := ⟨Int.natCast_nonneg _, by omega⟩
  simp only [Instr.index, asIntOf, Sem.run_bind, Sem.run_pure, Result.andThen_ok, run_underlying Tryz.underlying222, Tryz.sizeOf163]
  rw [if_pos h0]
  simp [part, Tryz.isAgg163, Tryz.sizeOf163, h1]

def ringNext (R : Nat → W32) (i : Nat) : Nat → W32 := if i < 16 then R else upd R (i % 16) (nextW R i)
def wordAt (R : Nat → W32) (i : Nat) : W32 := if i < 16 then R i else nextW R i
theorem word_ok {w : World} {b : Nat} {R : Nat → W32} {i : Nat} (h : Words w b 0 16 R) (hi : i < 64) : Calls Tryz.prog 134 #[.pointer (some ⟨b, 0, none⟩), .int .i64 i] w fun e w' => e = .returned (.int .u32 (U (wordAt R i))) ∧ Words w' b 0 16 (ringNext R i) ∧ Fr (fun k => k = b) w w' := by
  by_cases h16 : i < 16
  · refine (word_old h h16).mono ?_
    rintro e w' ⟨rfl, rfl⟩
    exact ⟨by unfold wordAt; rw [if_pos h16], by unfold ringNext; rw [if_pos h16]; exact h, Fr.refl _ _⟩
  · refine (word_new h (by omega) hi).mono ?_
    rintro e w' ⟨rfl, h1, h2⟩
    exact ⟨by unfold wordAt; rw [if_neg h16], by unfold ringNext; rw [if_neg h16]; exact h1, h2⟩
end Go.Proofs.YtfaooohenicfbaaGreatDoor
