/- Laws of layer 13 (store): the document's example; StoreNil. -/
import Derived.Test.YtkcppngopdiljaaStore7
import Derived.Test.YtkcppngopdiljaaRef1
import Derived.Lib.SlBytesConst
set_option linter.unusedVariables false
set_option linter.unusedSimpArgs false
namespace Go.Proofs.Ytkcppngopdiljaa
open Go.RowKit

def keyA : ByteArray := ⟨#[97]⟩
def oneWr : List Wr := [⟨keyA, [49], false⟩]
theorem one_right : right 1 oneWr = true := by
  unfold right oneWr allFit allFit fits
  rw [kl_eq, show keyA.size = 1 from rfl]
  simp [keyA, toList_data]
def oneSto : Sto := ⟨[(keyA, ⟨[⟨1, [49], false⟩], 1⟩)], 1⟩
theorem one_apply : Sto.empty.apply 1 oneWr = (oneSto, 0) := by
  unfold Sto.apply
  rw [one_right, if_neg (by simp)]
  exact if_pos rfl
theorem one_look : look keyA oneSto.kc = some ⟨[⟨1, [49], false⟩], 1⟩ := by simp [oneSto, look]
theorem one_get0 : oneSto.get 0 keyA = none := by rw [sto_get_some one_look]; rfl
theorem one_get1 : oneSto.get 1 keyA = some [49] := by rw [sto_get_some one_look]; rfl
theorem empty_small : Sto.Small Sto.empty 0 := ⟨Int.le_refl _, Int.le_refl _, Nat.le_refl _, (fun p hp => by cases hp), (fun p hp => by cases hp)⟩
theorem one_small : Sto.Small oneSto 64 := by
  have := empty_small.applied (l := oneWr) (List.Pairwise.nil) one_right
  exact this

theorem Rd.block {α : Type} {t : Ty α} {w : World} {F : Nat → Prop} {b : Nat} {cs : Array Value} {ty : TypeId} {fr : Nat × Nat} {xs : List α} (hb : w.heap[b]? = some (.cells cs ty fr)) (hF : F b) (hr : Row t w F xs cs.toList) (hl : xs.length ≤ 9223372036854775807) :
    Rd t w F (some ⟨b, 0, none⟩) xs := by
  refine ⟨hl, cs.toList, hr, fun j u hu => ?_⟩
  obtain ⟨ad, e, hc⟩ := At.block hb j u hu
  obtain rfl := Option.some.inj e
  exact ⟨_, rfl, hF, hc⟩

theorem one_setup {w w1 : World} {sb : Nat} (hs1 : StoreAt w1 (fun k => w.heap.size ≤ k) sb Sto.empty) (hf1 : Fr No w w1) :
    Calls Try.prog 38 #[.pointer (some ⟨sb, 0, none⟩), .agg #[.int .i64 1, .slice (some ⟨w1.heap.size + 1, 0, none⟩) 1 1]] ((w1.alloc (.cells #[.int .u8 49] 5 (1, 2))).alloc (.cells #[.string ⟨#[97]⟩, .slice (some ⟨w1.heap.size, 0, none⟩) 1 1, .bool false] 43))
      fun e w' => e = .returned (.int .i64 0) ∧ StoreAt w' (fun i => w.heap.size ≤ i) sb oneSto ∧ Fr No w w' := by
  obtain ⟨W, hW⟩ : ∃ W, W = (w1.alloc (.cells #[.int .u8 49] 5 (1, 2))).alloc (.cells #[.string keyA, .slice (some ⟨w1.heap.size, 0, none⟩) 1 1, .bool false] 43) := ⟨_, rfl⟩
  have hfW : Fr No w1 W := by rw [hW]; exact ((Fr.refl No w1).alloc _).alloc _
  have hRd : Rd tWr W (fun i => w1.heap.size ≤ i) (some ⟨w1.heap.size + 1, 0, none⟩) oneWr := by
    rw [hW]
    exact Rd.block (blk_two2 w1 _ _) (by show w1.heap.size ≤ _; omega) (Row.single (tWr_mk (A := some ⟨w1.heap.size, 0, none⟩) (c := 1) (r := [49]) (Nat.le_refl _) (Rd.block (blk_two1 w1 _ _) (Nat.le_refl _) ⟨[.int .u8 49], [], rfl, rfl, rfl⟩ (by simp)))) (by simp [oneWr])
  have hap := store_apply (w := W) (F := fun i => w.heap.size ≤ i ∧ i < w1.heap.size) (R := fun i => w1.heap.size ≤ i) (c := 1) 1 ((hs1.mono fun i hi hl => (⟨hi, hl⟩ : w.heap.size ≤ i ∧ i < w1.heap.size)).fr0 hfW) empty_small (by omega) hRd (fun i hi h => by have := h.2; omega) (by simp [oneWr]) (fun x hx => by
    obtain rfl : x = _ := by simpa [oneWr] using hx
    rw [show keyA.size = 1 from rfl]; omega)
  rw [one_apply] at hap
  show Calls _ _ _ ((w1.alloc (.cells #[.int .u8 49] 5 (1, 2))).alloc (.cells #[.string keyA, .slice (some ⟨w1.heap.size, 0, none⟩) 1 1, .bool false] 43)) _
  rw [← hW]
  refine hap.mono ?_
  rintro e w2 ⟨rfl, hs2, hf2⟩
  have z1 := hf1.size
  have z2 := hfW.size
  refine ⟨rfl, hs2.mono fun i hi _ => ?_, (hf1.trans (hfW.mono fun _ _ f => f.elim)).trans (hf2.mono fun i _ hi => .inr hi.1)⟩
  rcases hi with hi | hi
  · exact hi.1
  · omega

end Go.Proofs.Ytkcppngopdiljaa
