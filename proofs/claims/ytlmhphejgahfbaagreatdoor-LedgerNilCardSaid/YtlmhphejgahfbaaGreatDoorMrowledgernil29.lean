/- Texts of this claim, one behind the other: NilL, New2, Begin. -/
import Derived.Test.YtlmhphejgahfbaaGreatDoorMrowledgernil28
import Derived.Test.YtlmhphejgahfbaaGreatDoorMrowledgernil25
/- Layer 15 (ledger): of no ledger; of no tables. -/
set_option linter.unusedVariables false
set_option linter.unusedSimpArgs false
namespace Go.Proofs.YtlmhphejgahfbaaGreatDoor
open Go.RowKit

set_option maxHeartbeats 1000000 in
set_option maxRecDepth 100000 in
theorem right_nil (w : World) : Calls Tryz.prog 37 #[.slice none 0 0] w fun e w' => e = .returned (.bool false) ∧ w' = w := by
  have HW := Lib.hid (Fr.refl No w)
  go_enter Tryz.func37, Tryz.ntmps37
  go_wp2_with fail
  go_ret
  exact ⟨rfl, rfl⟩
set_option maxHeartbeats 1000000 in
set_option maxRecDepth 100000 in
theorem new_nil (w : World) : Calls Tryz.prog 8 #[.slice none 0 0] w fun e w' => e = .returned (.tuple #[.pointer none, .int .i64 1]) ∧ w' = w := by
  have HW := Lib.hid (Fr.refl No w)
  go_enter Tryz.func8, Tryz.ntmps8
  go_wp2_with fail
  refine (right_nil _).mono ?_
  rintro e1 w ⟨rfl, rfl⟩
  go_wp2_with fail
  go_ret2
  exact ⟨rfl, rfl⟩
set_option maxHeartbeats 1000000 in
set_option maxRecDepth 100000 in
theorem now_nil (w : World) : Calls Tryz.prog 20 #[.pointer none] w fun e w' => e = .returned (.int .i64 0) ∧ w' = w := by
  have HW := Lib.hid (Fr.refl No w)
  go_enter Tryz.func20, Tryz.ntmps20
  go_wp2_with fail
  go_ret
  exact ⟨rfl, rfl⟩
set_option maxHeartbeats 1000000 in
set_option maxRecDepth 100000 in
theorem begin_nil (w : World) : Calls Tryz.prog 11 #[.pointer none] w fun e w' => e = .returned (.int .i64 0) ∧ w' = w := by
  have HW := Lib.hid (Fr.refl No w)
  go_enter Tryz.func11, Tryz.ntmps11
  go_wp2_with fail
  go_ret
  exact ⟨rfl, rfl⟩
set_option maxHeartbeats 1000000 in
set_option maxRecDepth 100000 in
theorem of_nil (id : Int) (w : World) : Calls Tryz.prog 46 #[.pointer none, .int .i64 id] w fun e w' => e = .returned (.tuple #[.pointer none, .int .i64 5]) ∧ w' = w := by
  have HW := Lib.hid (Fr.refl No w)
  go_enter Tryz.func46, Tryz.ntmps46
  go_wp2_with fail
  go_ret2
  exact ⟨rfl, rfl⟩
set_option maxHeartbeats 1000000 in
set_option maxRecDepth 100000 in
theorem open_nil (id : Int) (w : World) : Calls Tryz.prog 25 #[.pointer none, .int .i64 id] w fun e w' => e = .returned (.bool false) ∧ w' = w := by
  have HW := Lib.hid (Fr.refl No w)
  go_enter Tryz.func25, Tryz.ntmps25
  go_wp2_with fail
  refine (of_nil id _).mono ?_
  rintro e1 w ⟨rfl, rfl⟩
  go_wp2_with fail
  go_ret
  exact ⟨rfl, rfl⟩
set_option maxHeartbeats 1000000 in
set_option maxRecDepth 100000 in
theorem wrote_nil (id : Int) (w : World) : Calls Tryz.prog 31 #[.pointer none, .int .i64 id] w fun e w' => e = .returned (.int .i64 0) ∧ w' = w := by
  have HW := Lib.hid (Fr.refl No w)
  go_enter Tryz.func31, Tryz.ntmps31
  go_wp2_with fail
  refine (of_nil id _).mono ?_
  rintro e1 w ⟨rfl, rfl⟩
  go_wp2_with fail
  refine (tx_writes_nil _).mono ?_
  rintro e1 w ⟨rfl, rfl⟩
  go_wp2_with fail
  go_ret
  exact ⟨rfl, rfl⟩
set_option maxHeartbeats 1000000 in
set_option maxRecDepth 100000 in
theorem keyed_nil (id t : Int) (w : World) : Calls Tryz.prog 58 #[.pointer none, .int .i64 id, .int .i64 t, .slice none 0 0] w fun e w' => e = .returned (.tuple #[.pointer none, .string ⟨#[]⟩, .int .i64 5]) ∧ w' = w := by
  have HW := Lib.hid (Fr.refl No w)
  go_enter Tryz.func58, Tryz.ntmps58
  go_wp2_with fail
  refine (of_nil id _).mono ?_
  rintro e1 w ⟨rfl, rfl⟩
  go_wp2_with fail
  (refine bodyPost_ret (results_tmp3 rfl _ _ _) rfl ?_)
  exact ⟨rfl, rfl⟩
set_option maxHeartbeats 1000000 in
set_option maxRecDepth 100000 in
theorem get_nil (id t : Int) (w : World) : Calls Tryz.prog 27 #[.pointer none, .int .i64 id, .int .i64 t, .slice none 0 0] w fun e w' => e = .returned (.tuple #[.slice none 0 0, .bool false, .int .i64 5]) ∧ w' = w := by
  have HW := Lib.hid (Fr.refl No w)
  go_enter Tryz.func27, Tryz.ntmps27
  go_wp2_with fail
  refine (keyed_nil id t _).mono ?_
  rintro e1 w ⟨rfl, rfl⟩
  go_wp2_with fail
  (refine bodyPost_ret (results_tmp3 rfl _ _ _) rfl ?_)
  exact ⟨rfl, rfl⟩
set_option maxHeartbeats 1000000 in
set_option maxRecDepth 100000 in
theorem scan_nil (id t m : Int) (w : World) : Calls Tryz.prog 28 #[.pointer none, .int .i64 id, .int .i64 t, .slice none 0 0, .int .i64 m] w fun e w' => e = .returned (.tuple #[.slice none 0 0, .int .i64 5]) ∧ w' = w := by
  have HW := Lib.hid (Fr.refl No w)
  go_enter Tryz.func28, Tryz.ntmps28
  go_wp2_with fail
  refine (of_nil id _).mono ?_
  rintro e1 w ⟨rfl, rfl⟩
  go_wp2_with fail
  go_ret2
  exact ⟨rfl, rfl⟩
set_option maxHeartbeats 1000000 in
set_option maxRecDepth 100000 in
theorem lput_nil (id t : Int) (w : World) : Calls Tryz.prog 13 #[.pointer none, .int .i64 id, .int .i64 t, .slice none 0 0] w fun e w' => e = .returned (.int .i64 5) ∧ w' = w := by
  have HW := Lib.hid (Fr.refl No w)
  go_enter Tryz.func13, Tryz.ntmps13
  go_wp2_with fail
  refine (of_nil id _).mono ?_
  rintro e1 w ⟨rfl, rfl⟩
  go_wp2_with fail
  go_ret
  exact ⟨rfl, rfl⟩
set_option maxHeartbeats 1000000 in
set_option maxRecDepth 100000 in
theorem delete_nil (id t : Int) (w : World) : Calls Tryz.prog 26 #[.pointer none, .int .i64 id, .int .i64 t, .slice none 0 0] w fun e w' => e = .returned (.int .i64 5) ∧ w' = w := by
  have HW := Lib.hid (Fr.refl No w)
  go_enter Tryz.func26, Tryz.ntmps26
  go_wp2_with fail
  refine (keyed_nil id t _).mono ?_
  rintro e1 w ⟨rfl, rfl⟩
  go_wp2_with fail
  go_ret
  exact ⟨rfl, rfl⟩
set_option maxHeartbeats 1000000 in
set_option maxRecDepth 100000 in
theorem abort_nil (id : Int) (w : World) : Calls Tryz.prog 32 #[.pointer none, .int .i64 id] w fun e w' => e = .returned (.int .i64 5) ∧ w' = w := by
  have HW := Lib.hid (Fr.refl No w)
  go_enter Tryz.func32, Tryz.ntmps32
  go_wp2_with fail
  refine (of_nil id _).mono ?_
  rintro e1 w ⟨rfl, rfl⟩
  go_wp2_with fail
  go_ret
  exact ⟨rfl, rfl⟩
set_option maxHeartbeats 1000000 in
set_option maxRecDepth 100000 in
theorem publish_nil (N : Int) (A B : Option Addr) (n c m d : Nat) (w : World) : Calls Tryz.prog 33 #[.pointer none, .agg #[.int .i64 N, .slice A n c], .slice B m d] w fun e w' => e = .returned (.int .i64 5) ∧ Fr No w w' := by
  have HW := Lib.hid (Fr.refl No w)
  go_enter Tryz.func33, Tryz.ntmps33
  go_wp2_with fail
  go_ret
  exact ⟨rfl, by repeat (first | exact HW.out | apply Fr.alloc | apply Fr.drew)⟩
set_option maxHeartbeats 1000000 in
set_option maxRecDepth 100000 in
theorem digests_nil (w : World) : Calls Tryz.prog 17 #[.pointer none] w fun e w' => e = .returned (.slice none 0 0) ∧ w' = w := by
  have HW := Lib.hid (Fr.refl No w)
  go_enter Tryz.func17, Tryz.ntmps17
  go_wp2_with fail
  go_ret
  exact ⟨rfl, rfl⟩
set_option maxHeartbeats 1000000 in
set_option maxRecDepth 100000 in
theorem versions_nil (w : World) : Calls Tryz.prog 34 #[.pointer none] w fun e w' => e = .returned (.int .i64 0) ∧ w' = w := by
  have HW := Lib.hid (Fr.refl No w)
  go_enter Tryz.func34, Tryz.ntmps34
  go_wp2_with fail
  go_ret
  exact ⟨rfl, rfl⟩
set_option maxHeartbeats 1000000 in
set_option maxRecDepth 100000 in
theorem readat_nil (t : Int) (s : ByteArray) (w : World) : Calls Tryz.prog 29 #[.pointer none, .string s, .int .i64 t, .slice none 0 0] w fun e w' => e = .returned (.tuple #[.slice none 0 0, .bool false, .slice none 0 0, .int .i64 5]) ∧ Fr No w w' := by
  have HW := Lib.hid (Fr.refl No w)
  go_enter Tryz.func29, Tryz.ntmps29
  go_wp2_with fail
  refine bodyPost_ret (v := .tuple #[.slice none 0 0, .bool false, .slice none 0 0, .int .i64 5]) (by simp [results, Tryz.results29, go_sem]) rfl ?_
  exact ⟨rfl, by repeat (first | exact HW.out | apply Fr.alloc | apply Fr.drew)⟩

set_option maxHeartbeats 4000000 in
set_option maxRecDepth 100000 in
theorem form_nil {w : World} {ids : List Int} {R : Nat → Prop} {Ai : Option Addr} {ci n : Nat} (hids : Rd (Ty.int .i64) w R Ai ids) (hl3 : ids.length ≤ 3) (hn : n = ids.length) (hci : n ≤ ci) :
    Calls Tryz.prog 30 #[.pointer none, .slice Ai n ci] w fun e w' => ∃ Ao co, e = .returned (.tuple #[.agg #[.int .i64 0, .slice none 0 0], .slice Ao n co]) ∧ Ow (Ty.int .i64) 24 w' (fun i => w.heap.size ≤ i) (.slice Ao n co) (List.replicate n 5) ∧ Fr No w w' := by
  have hmm := @run_makeMap Tryz.prog
  have hn1000 : (n : Int) ≤ 3 := by omega
  have hcin : (n : Int) ≤ (ci : Int) := by omega
  have hn0 : (0 : Int) ≤ (n : Int) := Int.natCast_nonneg _
  obtain ⟨W0, hW0⟩ : ∃ W0, W0 = ((w.alloc (.cells #[.int .i64 0, .slice none 0 0] 69)).alloc (.cells #[.int .i64 1, .slice none 0 0] 69)).alloc (.map #[] 0) := ⟨_, rfl⟩
  have hFI : FI w w.heap.size 1 [] [] none 0 none 0 W0 := by
    have f1 : Fr No w W0 := by rw [hW0]; exact (((Fr.refl No w).alloc _).alloc _).alloc _
    refine ⟨Ow.nil, Ow.nil, ?_, ?_, ?_, f1, by rw [hW0]; simp, Nat.le_refl _⟩
    · rw [hW0, Below.heap_alloc _ _ _ (by simp)]; exact blk_two2 w _ _
    · rw [hW0, Below.heap_alloc _ _ _ (by simp; omega)]; exact blk_two1 w _ _
    · rw [hW0]
      have := MapIs.new ((w.alloc (.cells #[.int .i64 0, .slice none 0 0] 69)).alloc (.cells #[.int .i64 1, .slice none 0 0] 69))
      simp only [World.size_alloc] at this
      exact this
  have HF0 := Lib.hid hFI
  have H := Lib.hid (And.intro hids hn)
  have HN := Lib.hid (fun w => now_nil w)
  have HO := Lib.hid (fun id w => of_nil id w)
  clear hids hFI hn
  go_enter Tryz.func30, Tryz.ntmps30
  go_wp2_with fail
  refine (HN.out _).mono ?_
  rintro e w1 ⟨rfl, rfl⟩
  go_wp2_with fail
  rw [← hW0]
  clear hW0
  go_loopw [8, 22] (fun ov iv wr => ∃ (k : Nat) (Ao : Option Addr) (co : Nat), k ≤ n ∧ iv = .int .i64 (k : Int) ∧ ov = .slice Ao k co ∧ Hid (∃ Aw cw, FI w w.heap.size 1 (List.replicate k 5) [] Ao co Aw cw wr)) (fun _ iv _ => n - (intOf iv).toNat)
  case atStart => exact ⟨0, none, 0, Nat.zero_le _, rfl, rfl, none, 0, HF0.out⟩
  case round =>
    obtain ⟨k, Ao, co, hk, rfl, rfl, I⟩ := hrel
    have hk0 : (0 : Int) ≤ (k : Int) := Int.natCast_nonneg _
    obtain ⟨Aw, cw, hI⟩ := I.out
    by_cases hlt : k < n
    · have hk1 : (k : Int) < (n : Int) := by omega
      have hlti : k < ids.length := by have := H.out.2; omega
      obtain ⟨ad, cs, rfl, hkk, h0, _⟩ := (H.out.1.fr0 hI.fr).get' hlti (by decide)
      obtain rfl : cs = _ := hkk
      have x0 := h0 _ rfl
      rw [show (Ty.int .i64).sz = 1 from rfl, Nat.mul_one] at x0
      clear h0
      have hids1000 := hl3
      obtain ⟨A1, c1, w1, hrun, hF1⟩ := hI.run 5 (by rw [List.length_replicate]; omega)
      rw [List.length_replicate] at hrun
      rw [← List.replicate_succ'] at hF1
      have HH := Lib.hid hF1
      obtain ⟨id, hid⟩ : ∃ id, ids[k] = id := ⟨_, rfl⟩
      rw [hid] at x0
      clear hF1 hI I hid hids1000
      go_wp2_with (first
        | (go_at_call 46; refine (HO.out id _).mono ?_; rintro e wr ⟨rfl, rfl⟩)
        | (at_builtin; refine wpList_plain rfl fun K hK => wp_append_run _ _ _ _ rfl rfl rfl hrun (hK _ _ ?_)))
      go_roundw
      case rel => exact ⟨k + 1, A1, c1, by omega, by go_num, rfl, Aw, cw, HH.out⟩
      case measure => simp [intOf]; omega
    · obtain rfl : k = n := by omega
      have n0 := blk_cell hI.res 0
      have n1 := blk_cell hI.res 1
      have z0 := blk_frozen hI.res 0
      have z1 := blk_frozen hI.res 1
      simp at n0 n1
      obtain ⟨Wf, hWf⟩ : ∃ Wf, Wf = (wr.setCell ⟨w.heap.size, 0, none⟩ (.int .i64 0)).setCell ⟨w.heap.size, 1, none⟩ (.slice none 0 0) := ⟨_, rfl⟩
      have hfW : Fr (fun i => i = w.heap.size) wr Wf := by rw [hWf]; exact ((Fr.refl (fun i => i = w.heap.size) wr).set ⟨w.heap.size, 0, none⟩ (.inl rfl) _).set ⟨w.heap.size, 1, none⟩ (.inl rfl) _
      have hbW : Wf.heap[w.heap.size]? = some (.cells #[.int .i64 0, .slice none 0 0] 69 (0, 0)) := by
        rw [hWf]
        have h1 := blk_set (blk_set hI.res 0 (.int .i64 0)) 1 (.slice none 0 0)
        simpa using h1
      have f0 := blk_cell hbW 0
      have f1 := blk_cell hbW 1
      simp at f0 f1
      have hout := hI.out
      rw [List.length_replicate] at hout
      have HE := Lib.hid (And.intro hout (And.intro hfW hI.fr))
      clear hout hfW hbW hI I
      go_wp2_with fail
      rw [← hWf]
      refine bodyPost_ret (v := .tuple #[.agg #[.int .i64 0, .slice none 0 0], .slice Ao k co]) (by simp [results, Tryz.results30, go_sem, f0, f1]) rfl ?_
      exact ⟨Ao, co, rfl, (HE.out.1.fr HE.out.2.1 (fun i hi e => by omega)).mono fun i hi _ => by omega, HE.out.2.2.next HE.out.2.1 (fun i hi e => by omega)⟩
set_option maxHeartbeats 1000000 in
set_option maxRecDepth 100000 in
theorem group_nil {w : World} {ids : List Int} {R : Nat → Prop} {Ai : Option Addr} {ci n : Nat} (hids : Rd (Ty.int .i64) w R Ai ids) (hl3 : ids.length ≤ 3) (hn : n = ids.length) (hci : n ≤ ci) :
    Calls Tryz.prog 15 #[.pointer none, .slice Ai n ci] w fun e w' => ∃ Ao co, e = .returned (.slice Ao n co) ∧ Fr No w w' := by
  have H := Lib.hid (form_nil hids hl3 hn hci)
  have HP := Lib.hid fun (w : World) (B : Option Addr) (m d : Nat) => publish_nil 0 none B 0 0 m d w
  clear hids hn hci
  go_enter Tryz.func15, Tryz.ntmps15
  go_wp2_with fail
  refine H.out.mono ?_
  rintro e w1 ⟨Ao, co, rfl, _, hf1⟩
  have H1 := Lib.hid hf1
  clear hf1
  go_wp2_with fail
  refine (HP.out _ _ _ _).mono ?_
  rintro e w2 ⟨rfl, hf2⟩
  have H2 := Lib.hid ((H1.out.alloc _).next hf2 (fun _ _ f => f.elim))
  clear hf2
  go_wp2_with fail
  go_ret
  exact ⟨Ao, co, rfl, H2.out⟩
end Go.Proofs.YtlmhphejgahfbaaGreatDoor
/- ledger.New, once more: its two maps are two. -/
set_option linter.unusedVariables false
set_option linter.unusedSimpArgs false
namespace Go.Proofs.YtlmhphejgahfbaaGreatDoor
open Go.RowKit

/-- A new ledger over tables at A. -/
def NewAt2 (w : World) (B lb : Nat) (A : Option Addr) (n c : Nat) : Prop := ∃ sb vb mb gb, (B ≤ lb ∧ B ≤ sb ∧ B ≤ vb ∧ B ≤ mb ∧ B ≤ gb ∧ vb ≠ mb) ∧ w.heap[lb]? = some (.cells #[.slice A n c, .pointer (some ⟨sb, 0, none⟩), .map (some mb), .int .i64 0, .slice (some ⟨gb, 0, none⟩) 1 1] 87) ∧ w.heap[sb]? = some (.cells #[.map (some vb), .int .i64 0] 159) ∧ w.heap[vb]? = some (.map #[] 0) ∧ w.heap[mb]? = some (.map #[] 0) ∧ w.heap[gb]? = some (.cells #[.string firstD, .string dE, .string (sha []), .pointer none] 81)
set_option maxHeartbeats 1000000 in
set_option maxRecDepth 100000 in
theorem ledger_new2 {w : World} {F : Nat → Prop} {A : Option Addr} {c : Nat} {l : List Tab} (h : Rd tTab w F A l) (g : TabsOk l) (hk : KAt w) :
    Calls Tryz.prog 8 #[.slice A l.length c] w fun e w' => ∃ lb, e = .returned (.tuple #[.pointer (some ⟨lb, 0, none⟩), .int .i64 0]) ∧ NewAt2 w' w.heap.size lb A l.length c ∧ Fr No w w' := by
  have hr := tright_ok (c := c) h g
  have hmm := @run_makeMap Tryz.prog
  have H := Lib.hid (And.intro hr (And.intro (fun (w1 : World) (f : Fr No w w1) => first_ok (hk.fr0 f)) (And.intro (fun (w1 : World) (f : Fr No w w1) => mark_empty (hk.fr0 f)) (fun (w1 : World) (f : Fr No w w1) => sum_ok (G := No) (A := none) (c := 0) (p := []) Rd.nil (hk.fr0 f) (by simp)))))
  have HS := Lib.hid fun (w : World) => store_new0 (w := w)
  clear hr g hk h
  go_enter Tryz.func8, Tryz.ntmps8
  go_wp2_with fail
  refine H.out.1.mono ?_
  rintro e w1 ⟨rfl, hf1⟩
  have H1 := Lib.hid hf1
  clear hf1
  go_wp2_with fail
  refine (H.out.2.1 _ H1.out).mono ?_
  rintro e w2 ⟨rfl, hf2⟩
  have H2 := Lib.hid (H1.out.trans (hf2.mono fun _ _ f => f.elim))
  clear hf2
  go_wp2_with fail
  refine (H.out.2.2.1 _ H2.out).mono ?_
  rintro e w3 ⟨rfl, hf3⟩
  have H3 := Lib.hid (H2.out.trans (hf3.mono fun _ _ f => f.elim))
  clear hf3
  go_wp2_with fail
  refine (H.out.2.2.2 _ H3.out).mono ?_
  rintro e w4 ⟨rfl, hf4⟩
  have H4 := Lib.hid (H3.out.trans (hf4.mono fun _ _ f => f.elim))
  clear hf4
  go_wp2_with fail
  go_region_law
    (go_simp; go_at_call 40; refine (HS.out _).mono ?_; rintro e5 w5 ⟨rfl, rfl⟩)
  all_goals
    go_wp2_with fail
    go_ret2
    refine ⟨_, rfl, ?_, H4.out.trans (Fr.mono (F := No) (by repeat (first | exact Fr.refl No _ | apply Fr.drew | apply Fr.drewN | apply Fr.alloc)) (fun _ _ f => f.elim))⟩
    · unfold NewAt2
      have hsz4 := H4.out.size
      obtain ⟨s5, s4, s3, s2, s1⟩ := six_at w4 _ _ _ _ _ _
      refine ⟨_, _, _, _, ?_, s5, (by first | exact s4 | exact s3 | exact s2 | exact s1), (by first | exact s4 | exact s3 | exact s2 | exact s1), (by first | exact s4 | exact s3 | exact s2 | exact s1), (by first | exact s4 | exact s3 | exact s2 | exact s1)⟩
      exact ⟨by omega, by omega, by omega, by omega, by omega, by omega⟩
end Go.Proofs.YtlmhphejgahfbaaGreatDoor
/- Layer 15 (ledger): New and Begin over a ledger's parts. -/
set_option linter.unusedVariables false
set_option linter.unusedSimpArgs false
namespace Go.Proofs.YtlmhphejgahfbaaGreatDoor
open Go.RowKit

theorem sto_new_at {w : World} {F : Nat → Prop} {sb vb : Nat} (h1 : F sb) (h2 : F vb) (hs : w.heap[sb]? = some (.cells #[.map (some vb), .int .i64 0] 159 (0, 0))) (hv : w.heap[vb]? = some (.map #[] 0)) : StoreAt w F sb Sto.empty := by
  have hne : vb ≠ sb := by rintro rfl; rw [hs] at hv; cases hv
  refine ⟨h1, vb, [], fun _ _ => False, h2, hne, hs, ⟨#[], 0, hv, rfl, by simp, by simp, by simp⟩, ?_, fun k i hi => (show False from hi).elim⟩
  exact ⟨List.Pairwise.nil, fun k => ⟨fun _ => rfl, fun _ => rfl⟩, (fun k v c h1 _ => by cases h1), fun _ _ hi => (show False from hi).elim, fun _ _ _ _ hi => (show False from hi).elim⟩
/-- A new ledger's parts. -/
theorem newAt_led {w0 w1 w : World} {lb : Nat} {A : Option Addr} {c : Nat} {tabs : List Tab} {F : Nat → Prop} (h : NewAt2 w w1.heap.size lb A tabs.length c) (hR : Rd tTab w F A tabs) (hF : ∀ i, F i → w0.heap.size ≤ i ∧ i < w1.heap.size) (hc : tabs.length ≤ c) (hk : KAt w0) (hkw : KAt w) (hz : w0.heap.size ≤ w1.heap.size) :
    ∃ col, LedAt w col lb (Led.new tabs) ∧ ∀ i, i < w0.heap.size → col i = 0 := by
  obtain ⟨sb, vb, mb, gb, ⟨b1, b2, b3, b4, b5, nvm⟩, h1, h2, h3, h4, h5⟩ := h
  have n1 : lb ≠ sb := by rintro rfl; rw [h1] at h2; injection h2 with h2; injection h2 with h2; simp at h2
  have n2 : lb ≠ vb := by rintro rfl; rw [h1] at h3; cases h3
  have n3 : lb ≠ mb := by rintro rfl; rw [h1] at h4; cases h4
  have n4 : lb ≠ gb := by rintro rfl; rw [h1] at h5; injection h5 with h5; injection h5 with h5; simp at h5
  have n5 : sb ≠ mb := by rintro rfl; rw [h2] at h4; cases h4
  have n6 : sb ≠ gb := by rintro rfl; rw [h2] at h5; injection h5 with h5; injection h5 with h5; simp at h5
  have n7 : gb ≠ mb := by rintro rfl; rw [h5] at h4; cases h4
  have n8 : gb ≠ vb := by rintro rfl; rw [h5] at h3; cases h3
  have l1 := blk_lt h1
  have l2 := blk_lt h2
  have l3 := blk_lt h3
  have l4 := blk_lt h4
  have l5 := blk_lt h5
  obtain ⟨col, hcol⟩ : ∃ col : Nat → Nat, col = fun i => if i < w0.heap.size then 0 else if i < w1.heap.size then 6 else if i = lb then 1 else if i = mb then 2 else if i = sb ∨ i = vb then 3 else if i = gb then 4 else 9 := ⟨_, rfl⟩
  have e0 : ∀ i, i < w0.heap.size → col i = 0 := fun i hi => by rw [hcol]; simp only [if_pos hi]
  have e6 : ∀ i, w0.heap.size ≤ i → i < w1.heap.size → col i = 6 := fun i h h' => by rw [hcol]; simp only [if_neg (show ¬ i < w0.heap.size by omega), if_pos h']
  have eb : ∀ i, w1.heap.size ≤ i → col i = if i = lb then 1 else if i = mb then 2 else if i = sb ∨ i = vb then 3 else if i = gb then 4 else 9 := fun i h => by rw [hcol]; simp only [if_neg (show ¬ i < w0.heap.size by omega), if_neg (show ¬ i < w1.heap.size by omega)]
  have e1 : col lb = 1 := by rw [eb _ b1, if_pos rfl]
  have e2 : col mb = 2 := by rw [eb _ b4, if_neg (fun e => n3 e.symm), if_pos rfl]
  have e3 : col sb = 3 := by rw [eb _ b2, if_neg (fun e => n1 e.symm), if_neg n5, if_pos (.inl rfl)]
  have e3' : col vb = 3 := by rw [eb _ b3, if_neg (fun e => n2 e.symm), if_neg nvm, if_pos (.inr rfl)]
  have e4 : col gb = 4 := by rw [eb _ b5, if_neg (fun e => n4 e.symm), if_neg n7, if_neg (by rintro (e | e); exact n6 e.symm; exact n8 e), if_pos rfl]
  refine ⟨col, ⟨A, c, sb, mb, .slice (some ⟨gb, 0, none⟩) 1 1, [], ?_⟩, e0⟩
  refine { blk := h1, c1 := e1, c2 := e2, cap := hc, tabs := hR.mono fun i hi _ => e6 i (hF i hi).1 (hF i hi).2, sto := sto_new_at e3 e3' h2 h3, map := ⟨#[], 0, h4, rfl, by simp, by simp, by simp⟩, txs := ⟨fun _ _ => rfl, fun id x hx => by cases hx⟩, sts := ?_, own := fun k hk => ?_, kat := hkw, kc := e0 _ (kat_lt hk) }
  · refine ⟨[.string firstD, .string dE, .string (sha []), .pointer none], ⟨rfl, .inr ⟨gb, 1, _, rfl, Nat.zero_le _, h5, Nat.le_refl _, by decide, rfl, rfl⟩⟩, Row.single (t := tStt col) ⟨.pointer none, rfl, rfl⟩, fun k hk => ?_⟩
    simp [Value.ownBlock] at hk; subst hk; exact .inl e4
  · simp [Value.ownBlock] at hk; subst hk; exact e4

set_option maxHeartbeats 1000000 in
theorem led_begin_at {w : World} {col : Nat → Nat} {lb : Nat} {L : Led} {m : Nat} (h : LedAt w col lb L) (hok : L.Ok m) (hm : m ≤ 4000) :
    Calls Tryz.prog 11 #[.pointer (some ⟨lb, 0, none⟩)] w fun e w' => e = .returned (.int .i64 (L.next + 1)) ∧ (∃ col', (∀ i, i < w.heap.size → col' i = col i) ∧ LedAt w' col' lb L.begin_) ∧ Fr (fun i => col i = 1 ∨ col i = 2) w w' := by
  obtain ⟨A, c, sb, mb, vst, l, hP⟩ := h
  obtain ⟨hsc, mv, l2, G, _, _, hsb, _⟩ := hP.sto
  have hc1 := hP.c1
  have hc2 := hP.c2
  have hsc' : col sb = 3 := hsc
  have hn1 := hok.next1
  have hn0 := hok.next0
  refine (led_begin hP.blk hsb hP.map (fun e => by rw [e] at hc1; omega) (fun e => by rw [e] at hc1; omega) (fun e => by rw [e] at hsc'; omega) hn0 (by omega)).mono ?_
  rintro e w' ⟨xb, rfl, hb', hm', ⟨hxB, yb, hyB, hx, hy⟩, hf⟩
  have hlt : ∀ i, i < w.heap.size → ext col w.heap.size (txCol (L.next + 1)) i = col i := fun i hi => ext_old col hi
  have hr := hP.recol (col' := ext col w.heap.size (txCol (L.next + 1))) hlt
  have hS : ∀ i, i < w.heap.size → ext col w.heap.size (txCol (L.next + 1)) i ≠ 1 → ext col w.heap.size (txCol (L.next + 1)) i ≠ 2 → ¬ (i = lb ∨ i = mb) := fun i hi h1 h2 e => by
    rw [hlt i hi] at h1 h2
    rcases e with e | e
    · rw [e] at h1; exact h1 hc1
    · rw [e] at h2; exact h2 hc2
  have hnew : ∀ i, w.heap.size ≤ i → ext col w.heap.size (txCol (L.next + 1)) i = txCol (L.next + 1) := fun i hi => ext_new col hi
  have hT : TxAt w' (fun i => ext col w.heap.size (txCol (L.next + 1)) i = txCol (L.next + 1)) xb L.s.now [] := by
    refine ⟨hnew _ hxB, yb, [], hnew _ hyB, ?_, hx, ⟨#[], 0, hy, rfl, by simp, by simp, by simp⟩, ⟨List.Pairwise.nil, fun _ _ => rfl, fun k x h => by cases h⟩⟩
    rintro rfl
    rw [hx] at hy; cases hy
  refine ⟨rfl, ⟨ext col w.heap.size (txCol (L.next + 1)), hlt, A, c, sb, mb, vst, layI (L.next + 1) (.pointer (some ⟨xb, 0, none⟩)) l, ?_⟩, hf.mono fun i _ e => by rcases e with e | e; exact .inl (by rw [e]; exact hc1); exact .inr (by rw [e]; exact hc2)⟩
  refine { blk := hb', c1 := hr.c1, c2 := hr.c2, cap := hr.cap, tabs := hr.tabs.stab fun i hi hl => hf.block i hl (hS i hl (by rw [hi]; decide) (by rw [hi]; decide)), sto := hr.sto.stab hf.size fun i hi hl => hf.block i hl (hS i hl (by rw [hi]; decide) (by rw [hi]; decide)), map := hm', txs := ⟨fun id h' => ?_, fun id y hy => ?_⟩, sts := hr.sts.stab fun i hi hl => hf.block i hl (hS i hl (by rcases hi with hi | hi <;> rw [hi] <;> decide) (by rcases hi with hi | hi <;> rw [hi] <;> decide)), own := hr.own, kat := hP.kat.fr hf (hS _ (kat_lt hP.kat) (by rw [hr.kc]; decide) (by rw [hr.kc]; decide)), kc := hr.kc }
  · rw [find_begin (fun x hx => (hok.ids x hx).2)] at h'
    rw [look_layI]
    split at h'
    · cases h'
    · rename_i e; rw [if_neg (fun q => e q.symm)]; exact hP.txs.none_ _ h'
  · rw [find_begin (fun x hx => (hok.ids x hx).2)] at hy
    rw [look_layI]
    split at hy
    · rename_i e
      injection hy with hy
      subst hy
      subst e
      exact ⟨xb, if_pos rfl, hT⟩
    · rename_i e
      obtain ⟨xb', h1, h2⟩ := hr.txs.some_ id y hy
      refine ⟨xb', by rw [if_neg (fun q => e q.symm)]; exact h1, h2.stab fun i hi hl => hf.block i hl (hS i hl ?_ ?_)⟩
      · have := txCol_ge id; omega
      · have := txCol_ge id; omega
end Go.Proofs.YtlmhphejgahfbaaGreatDoor
