/- SHA-256: Sum. -/
import Derived.Test.YtfaooohenicfbaaGreatDoorSha6
set_option linter.unusedVariables false
set_option linter.unusedSimpArgs false
namespace Go.Proofs.YtfaooohenicfbaaGreatDoor
open Go.RowKit

/-- The block of a hasher in which nothing has come. -/
def freshObj : Obj := .cells #[.int .u32 1779033703, .int .u32 3144134277, .int .u32 1013904242, .int .u32 2773480762, .int .u32 1359893119, .int .u32 2600822924, .int .u32 528734635, .int .u32 1541459225, .slice none 0 0, .int .u64 0] 168

set_option maxHeartbeats 1000000 in
set_option maxRecDepth 100000 in
theorem fresh_ok (w : World) : Calls Tryz.prog 62 #[] w fun e w' => e = .returned (.pointer (some ⟨w.heap.size, 0, none⟩)) ∧ w' = w.alloc freshObj := by
  go_enter Tryz.func62, Tryz.ntmps62
  go_wp2_with fail
  go_ret
  first | exact ⟨rfl, rfl⟩ | rfl

theorem fresh_own (w : World) : Own w.heap.size (w.alloc freshObj) w.heap.size H0 [] 0 := by
  refine ⟨fun i => i = w.heap.size, ⟨rfl, .slice none 0 0, ⟨_, heap_alloc_new w _, rfl, fun j hj => ?_, rfl, rfl⟩, .inl ⟨rfl, rfl⟩⟩, fun i hi => by subst hi; simp⟩
  match j, hj with
  | 0, _ | 1, _ | 2, _ | 3, _ | 4, _ | 5, _ | 6, _ | 7, _ => rfl
  | n + 8, h => exact absurd h (by omega)

theorem Rd.here {α : Type} {t : Ty α} {w : World} {F : Nat → Prop} {A : Option Addr} {xs : List α} (h : Rd t w F A xs) : Rd t w (fun i => F i ∧ i < w.heap.size) A xs := h.mono fun _ a b => ⟨a, b⟩
theorem KAt.lt {w : World} (h : KAt w) : 0 < w.heap.size := World.block_lt_of_cell? w _ (h 0 (by decide))

set_option maxHeartbeats 1000000 in
set_option maxRecDepth 100000 in
theorem sum_ok {w : World} {G : Nat → Prop} {A : Option Addr} {c : Nat} {p : Bs} (hr : Rd Ty.u8 w G A p) (hk : KAt w) (hp : p.length ≤ 10000000000) :
    Calls Tryz.prog 44 #[.slice A p.length c] w fun e w' => e = .returned (.string (sha p)) ∧ Fr No w w' := by
  obtain ⟨W, hW⟩ : ∃ W, W = w.alloc freshObj := ⟨_, rfl⟩
  have hfa : Fr No w W := by rw [hW]; exact (Fr.refl No w).alloc _
  have hf := fresh_ok w
  have hO := fresh_own w
  rw [← hW] at hf hO
  have hw := own_write (c := c) hO (hr.here.fr0 hfa) (fun i hi => .inl hi.2) (hk.fr0 hfa) hk.lt (by simp; omega) (by omega)
  rw [List.nil_append, Nat.zero_add] at hw
  have HH := Lib.hid (And.intro hf (And.intro hw (And.intro hfa (And.intro hk hk.lt))))
  clear hf hO hw hfa hr hk hW
  go_enter Tryz.func44, Tryz.ntmps44
  go_wp2_with fail
  refine HH.out.1.mono ?_
  rintro e1 w1 ⟨rfl, rfl⟩
  go_wp2_with fail
  refine HH.out.2.1.mono ?_
  rintro e2 w2 ⟨rfl, hO2, hf2⟩
  have hk2 : KAt w2 := (HH.out.2.2.2.1.fr0 HH.out.2.2.1).fr hf2 (fun h => by have := HH.out.2.2.2.2; omega)
  have hend := end_ok hO2 hk2 HH.out.2.2.2.2 hp
  have HE := Lib.hid (And.intro hend hf2)
  clear hend hO2 hf2 hk2
  go_wp2_with fail
  refine HE.out.1.mono ?_
  rintro e3 w3 ⟨rfl, hf3⟩
  go_wp2_with fail
  go_ret
  exact ⟨rfl, HH.out.2.2.1.trans ((HE.out.2.trans (hf3.mono fun i _ h => .inl h)).mono fun i _ h => .inr h)⟩
end Go.Proofs.YtfaooohenicfbaaGreatDoor
