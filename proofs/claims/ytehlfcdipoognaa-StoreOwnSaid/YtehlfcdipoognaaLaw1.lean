/- Laws of layer 13 (store): the document's example; StoreNil. -/
import Derived.Test.YtehlfcdipoognaaStore7
import Derived.Test.YtehlfcdipoognaaRef1
import Derived.Lib.SlBytesConst
set_option linter.unusedVariables false
set_option linter.unusedSimpArgs false
namespace Go.Proofs.Ytehlfcdipoognaa
open Go.RowKit

def keyA : ByteArray := ⟨#[97]⟩
def oneWr : List Wr := [⟨keyA, [49], false⟩]
theorem one_right : right 1 oneWr = true := by
  unfold right oneWr allFit allFit fits
  rw [kl_eq, show keyA.size = 1 from rfl]
  simp [keyA, toList_data]
def oneSto : Sto := ⟨[(keyA, ⟨[⟨1, [49], false⟩], 1⟩)], 1⟩
theorem one_apply : Sto.empty.apply 1 oneWr = (oneSto, 0) := by
  unfold Sto.apply
  rw [one_right, if_neg (by simp)]
  exact if_pos rfl
theorem one_look : look keyA oneSto.kc = some ⟨[⟨1, [49], false⟩], 1⟩ := by simp [oneSto, look]
theorem one_get0 : oneSto.get 0 keyA = none := by rw [sto_get_some one_look]; rfl
theorem one_get1 : oneSto.get 1 keyA = some [49] := by rw [sto_get_some one_look]; rfl
theorem empty_small : Sto.Small Sto.empty 0 := ⟨Int.le_refl _, Int.le_refl _, Nat.le_refl _, (fun p hp => by cases hp), (fun p hp => by cases hp)⟩
theorem one_small : Sto.Small oneSto 64 := by
  have := empty_small.applied (l := oneWr) (List.Pairwise.nil) one_right
  exact this

theorem Rd.block {α : Type} {t : Ty α} {w : World} {F : Nat → Prop} {b : Nat} {cs : Array Value} {ty : TypeId} {fr : Nat × Nat} {xs : List α} (hb : w.heap[b]? = some (.cells cs ty fr)) (hF : F b) (hr : Row t w F xs cs.toList) (hl : xs.length ≤ 9223372036854775807) :
    Rd t w F (some ⟨b, 0, none⟩) xs := by
  refine ⟨hl, cs.toList, hr, fun j u hu => ?_⟩
  obtain ⟨ad, e, hc⟩ := At.block hb j u hu
  obtain rfl := Option.some.inj e
  exact ⟨_, rfl, hF, hc⟩

theorem one_setup {w w1 : World} {sb : Nat} (hs1 : StoreAt w1 (fun k => w.heap.size ≤ k) sb Sto.empty) (hf1 : Fr No w w1) :
    Calls Try.prog 17 #[.pointer (some ⟨sb, 0, none⟩), .agg #[.int .i64 1, .slice (some ⟨w1.heap.size + 1, 0, none⟩) 1 1]] ((w1.alloc (.cells #[.int .u8 49] 5 (1, 2))).alloc (.cells #[.string ⟨#[97]⟩, .slice (some ⟨w1.heap.size, 0, none⟩) 1 1, .bool false] 53))
      fun e w' => e = .returned (.int .i64 0) ∧ StoreAt w' (fun i => w.heap.size ≤ i) sb oneSto ∧ Fr No w w' := by
  obtain ⟨W, hW⟩ : ∃ W, W = (w1.alloc (.cells #[.int .u8 49] 5 (1, 2))).alloc (.cells #[.string keyA, .slice (some ⟨w1.heap.size, 0, none⟩) 1 1, .bool false] 53) := ⟨_, rfl⟩
  have hfW : Fr No w1 W := by rw [hW]; exact ((Fr.refl No w1).alloc _).alloc _
  have hRd : Rd tWr W (fun i => w1.heap.size ≤ i) (some ⟨w1.heap.size + 1, 0, none⟩) oneWr := by
    rw [hW]
    exact Rd.block (blk_two2 w1 _ _) (by show w1.heap.size ≤ _; omega) (Row.single (tWr_mk (A := some ⟨w1.heap.size, 0, none⟩) (c := 1) (r := [49]) (Nat.le_refl _) (Rd.block (blk_two1 w1 _ _) (Nat.le_refl _) ⟨[.int .u8 49], [], rfl, rfl, rfl⟩ (by simp)))) (by simp [oneWr])
  have hap := store_apply (w := W) (F := fun i => w.heap.size ≤ i ∧ i < w1.heap.size) (R := fun i => w1.heap.size ≤ i) (c := 1) 1 ((hs1.mono fun i hi hl => (⟨hi, hl⟩ : w.heap.size ≤ i ∧ i < w1.heap.size)).fr0 hfW) empty_small (by omega) hRd (fun i hi h => by have := h.2; omega) (by simp [oneWr]) (fun x hx => by
    obtain rfl : x = _ := by simpa [oneWr] using hx
    rw [show keyA.size = 1 from rfl]; omega)
  rw [one_apply] at hap
  show Calls _ _ _ ((w1.alloc (.cells #[.int .u8 49] 5 (1, 2))).alloc (.cells #[.string keyA, .slice (some ⟨w1.heap.size, 0, none⟩) 1 1, .bool false] 53)) _
  rw [← hW]
  refine hap.mono ?_
  rintro e w2 ⟨rfl, hs2, hf2⟩
  have z1 := hf1.size
  have z2 := hfW.size
  refine ⟨rfl, hs2.mono fun i hi _ => ?_, (hf1.trans (hfW.mono fun _ _ f => f.elim)).trans (hf2.mono fun i _ hi => .inr hi.1)⟩
  rcases hi with hi | hi
  · exact hi.1
  · omega

theorem one_gets {w w2 : World} {sb : Nat} (hs2 : StoreAt w2 (fun i => w.heap.size ≤ i) sb oneSto) :
    (∀ w', Fr No w2 w' → Calls Try.prog 22 #[.pointer (some ⟨sb, 0, none⟩), .int .i64 0, .string ⟨#[97]⟩] w' fun e w3 => (∃ A c, e = .returned (.tuple #[.slice A 0 c, .bool false])) ∧ Fr No w' w3) ∧
    (∀ w', Fr No w2 w' → Calls Try.prog 22 #[.pointer (some ⟨sb, 0, none⟩), .int .i64 1, .string ⟨#[97]⟩] w' fun e w3 => (∃ A c, e = .returned (.tuple #[.slice A 1 c, .bool true])) ∧ Fr No w' w3) ∧
    (∀ w', Fr No w2 w' → Calls Try.prog 19 #[.pointer (some ⟨sb, 0, none⟩)] w' fun e w3 => e = .returned (.int .i64 1) ∧ w3 = w') := by
  refine ⟨fun w' f => ?_, fun w' f => ?_, fun w' f => store_now (hs2.fr0 f)⟩
  · have h := store_get (hs2.fr0 f) one_small (by omega) 0 keyA
    rw [one_get0] at h
    refine h.mono ?_
    rintro e w3 ⟨⟨A, c, rfl, _⟩, hf⟩
    exact ⟨⟨A, c, rfl⟩, hf⟩
  · have h := store_get (hs2.fr0 f) one_small (by omega) 1 keyA
    rw [one_get1] at h
    refine h.mono ?_
    rintro e w3 ⟨⟨A, c, rfl, _⟩, hf⟩
    exact ⟨⟨A, c, rfl⟩, hf⟩

set_option maxHeartbeats 1000000 in
set_option maxRecDepth 100000 in
theorem law_one (w : World) : Calls Try.prog 10 #[] w fun e w' => e = .returned (.bool true) ∧ Fr No w w' := by
  have kc := fun (w : World) (C : Array Value) (n c : Nat) => Lib.run_convert_bytes_const (P := Try.prog) w 49 5 C n c Try.underlying49 Try.underlying5
  go_enter Try.func10, Try.ntmps10
  go_wp2_with (go_at_call 20; refine (store_new _).mono ?_; rintro e w1 ⟨sb, rfl, hs1, hf1⟩
               have H1 := Lib.hid (one_setup hs1 hf1); clear hs1 hf1)
  refine H1.out.mono ?_
  rintro e w2 ⟨rfl, hs2, hf2⟩
  have H2 := Lib.hid (And.intro (one_gets hs2) hf2)
  clear hs2 hf2
  go_wp2_with fail
  refine (H2.out.1.1 _ (Fr.refl _ _)).mono ?_
  rintro e w3 ⟨⟨A3, c3, rfl⟩, hf3⟩
  have H3 := Lib.hid hf3
  clear hf3
  go_wp2_with fail
  refine (H2.out.1.2.1 _ H3.out).mono ?_
  rintro e w4 ⟨⟨A4, c4, rfl⟩, hf4⟩
  have H4 := Lib.hid (H3.out.trans (hf4.mono fun _ _ f => f.elim))
  clear hf4
  go_wp2_with fail
  refine (H2.out.1.2.2 _ H4.out).mono ?_
  rintro e w5 ⟨rfl, rfl⟩
  go_wp2
  go_ret
  exact ⟨rfl, H2.out.2.trans (H4.out.mono fun _ _ f => f.elim)⟩

set_option maxHeartbeats 1000000 in
set_option maxRecDepth 100000 in
theorem law_nil (a : Int) (key : ByteArray) (w : World) : Calls Try.prog 9 #[.int .i64 a, .string key] w fun e w' => e = .returned (.bool true) ∧ Fr No w w' := by
  have hk0 : (0 : Int) ≤ (key.size : Int) := Int.natCast_nonneg _
  by_cases hk : key.size ≤ 60
  · go_enter Try.func9, Try.ntmps9
    go_wp2_with (first
      | (go_at_call 22; refine (store_get_nil _ _ _).mono ?_; rintro e w1 ⟨⟨A1, c1, rfl, _⟩, hf1⟩; have H1 := Lib.hid hf1; clear hf1)
      | (go_at_call 10; refine (law_one _).mono ?_; rintro e w2 ⟨rfl, hf2⟩; have H2 := Lib.hid hf2; clear hf2)
      | (go_at_call 17; refine (store_apply_nil _ 0 none 0 0 _ rfl).mono ?_; rintro e w3 ⟨rfl, hf3⟩; have H3 := Lib.hid hf3; clear hf3)
      | (go_at_call 19; refine (store_now_nil _).mono ?_; rintro e w4 ⟨rfl, rfl⟩)
      | (go_at_call 28; refine (store_last_nil _ _).mono ?_; rintro e w5 ⟨rfl, rfl⟩)
      | (go_at_call 13; refine (store_scan_nil _ _ _ _ _).mono ?_; rintro e w6 ⟨rfl, rfl⟩)
      | (go_at_call 26; refine (store_trim_nil _ _).mono ?_; rintro e w7 ⟨rfl, rfl⟩)
      | (go_at_call 27; refine (store_len_nil _).mono ?_; rintro e w8 ⟨rfl, rfl⟩))
    go_ret
    exact ⟨rfl, (H1.out.trans (H2.out.mono fun _ _ f => f.elim)).trans (H3.out.mono fun _ _ f => f.elim)⟩
  · go_enter Try.func9, Try.ntmps9
    go_wp2_with (go_at_call 10; refine (law_one _).mono ?_; rintro e w2 ⟨rfl, hf2⟩; have H2 := Lib.hid hf2; clear hf2)
    go_ret
    exact ⟨rfl, H2.out⟩
end Go.Proofs.Ytehlfcdipoognaa
