/- Laws of layer 20 (judge): JudgePrefix. -/
import Derived.Test.YtkjlipclimfoeaaGreatDoorLaw20a
set_option linter.unusedVariables false
set_option linter.unusedSimpArgs false
namespace Go.Proofs.YtkjlipclimfoeaaGreatDoor
open Go.RowKit

/-- The letters that a byte comes to. -/
def cq (b : UInt8) : UInt8 := 97 + b % 3
theorem cq_nat (b : UInt8) : ((cq b).toNat : Int) = 97 + (b.toNat : Int) % 3 := by
  have h1 : (cq b).toNat = (97 + b.toNat % 3) % 256 := by unfold cq; rw [UInt8.toNat_add, UInt8.toNat_mod]; rfl
  omega
/-- A text of one byte, off its block. -/
theorem run_one_at (w' : World) (g : Nat) (u : UInt8) {x : Int} (hx : x = (u.toNat : Int)) (hb : w'.heap[g]? = some (.cells #[.int .u8 x] 5 (0, 0))) : (convert 22 9 (.slice (some ⟨g, 0, none⟩) 1 1)).run Tryz.prog w' = .ok (.string (one u)) w' := by
  subst hx
  have hrd : Rd Ty.u8 w' (fun _ => True) (some ⟨g, 0, none⟩) [u] := ⟨by simp, _, row_bytes [u], fun j v hv => ⟨_, rfl, trivial, by rw [add0, blk_cell hb, ← Array.getElem?_toList]; exact hv⟩⟩
  exact run_str (c := 1) (n := 1) hrd rfl
def words (l : Bs) : List ByteArray := l.map fun b => one (cq b)
theorem words_succ (l : Bs) {k : Nat} (h : k < l.length) : words (l.take (k + 1)) = words (l.take k) ++ [one (cq l[k])] := by
  unfold words
  rw [List.take_succ_eq_append_getElem h, List.map_append]; rfl
theorem words_len (l : Bs) : (words l).length = l.length := by unfold words; rw [List.length_map]

set_option maxHeartbeats 1000000 in
set_option maxRecDepth 100000 in
theorem law_prefix_ok {w : World} {F G : Nat → Prop} {D E : Option Addr} {d e1 : Nat} {a b : Bs} {p q : UInt8} (h : Rd Ty.u8 w F D a) (h2 : Rd Ty.u8 w G E b) (ha : a.length ≤ 20) (hb : b.length ≤ 20) :
    Calls Tryz.prog 3 #[.slice D a.length d, .slice E b.length e1, .int .u8 (p.toNat : Int), .int .u8 (q.toNat : Int)] w fun e w' => e = .returned (.bool true) ∧ Fr No w w' := by
  have hai : (a.length : Int) ≤ 20 := by omega
  have hbi : (b.length : Int) ≤ 20 := by omega
  have H := Lib.hid (And.intro h h2)
  have HB := Lib.hid (stands_ok (w := w))
  clear h h2 ha hb
  go_enter Tryz.func3, Tryz.ntmps3
  go_wp2_with fail
  refine HB.out.mono ?_
  rintro e w1 ⟨rfl, hf1⟩
  have H1 := Lib.hid hf1
  clear hf1
  go_wp2_with fail
  go_loopw [9, 11] (fun v iv wr => ∃ (k : Nat) (A : Option Addr) (c : Nat), k ≤ a.length ∧ iv = .int .i64 (k : Int) ∧ v = .slice A k c ∧ Hid (Ow Ty.str 9 wr (fun i => w1.heap.size ≤ i) (.slice A k c) (words (a.take k)) ∧ Fr No w1 wr)) (fun _ iv _ => a.length - (intOf iv).toNat)
  case atStart => exact ⟨0, none, 0, Nat.zero_le _, rfl, rfl, Ow.nil, Fr.refl _ _⟩
  case round =>
    obtain ⟨k, A, c, hk, rfl, rfl, I⟩ := hrel
    have hk0 : (0 : Int) ≤ (k : Int) := Int.natCast_nonneg _
    by_cases hlt : k < a.length
    · have hk1 : (k : Int) < (a.length : Int) := by omega
      have hfw := H1.out.next I.out.2 (fun _ _ f => f.elim)
      obtain ⟨ad, rfl, x0⟩ := u8_at (H.out.1.fr0 hfw) hlt
      have hsucc := words_succ a hlt
      obtain ⟨u, hu⟩ : ∃ u, a[k] = u := ⟨_, rfl⟩
      rw [hu] at x0 hsucc
      have hconv : (convert 22 9 (.slice (some ⟨wr.heap.size, 0, none⟩) 1 1)).run Tryz.prog (wr.alloc (.cells #[.int .u8 (97 + (u.toNat : Int) % 3)] 5)) = .ok (.string (one (cq u))) _ := run_one_at _ _ (cq u) (cq_nat u).symm (heap_alloc_new _ _)
      have hlen : (words (a.take k)).length = k := by rw [words_len, List.length_take]; omega
      have hfa : Fr No wr (wr.alloc (.cells #[.int .u8 (97 + (u.toNat : Int) % 3)] 5)) := (Fr.refl No wr).alloc _
      obtain ⟨A2, c2, w2, hrun, hO2, hf2⟩ := strs_snoc (x := one (cq u)) (I.out.1.fr0 hfa) (by rw [hlen]; omega) (Nat.le_trans I.out.2.size hfa.size) rfl
      rw [hlen] at hrun hO2
      rw [← hsucc] at hO2
      have HS := Lib.hid (And.intro hO2 (I.out.2.next (G := fun i => w1.heap.size ≤ i) ((hfa.mono fun _ _ f => f.elim).next hf2 (fun _ _ g => g)) (fun i hi g => by omega)))
      rw [World.size_alloc] at hrun
      clear hO2 hf2 hsucc hlen hfa hu hfw
      go_wp2_with (at_builtin; refine wpList_plain rfl fun K hK => wp_append_run _ _ _ _ rfl rfl rfl hrun (hK _ _ ?_))
      go_roundw
      case rel => exact ⟨k + 1, A2, c2, by omega, by go_num, rfl, HS.out.1, HS.out.2⟩
      case measure => simp [intOf]; omega
    · obtain rfl : k = a.length := by omega
      have hIl := I.out.1
      rw [List.take_length] at hIl
      have HX := Lib.hid (And.intro hIl I.out.2)
      clear hIl I
      obtain ⟨wq, hwq⟩ : ∃ wq, wq = wr := ⟨_, rfl⟩
      subst hwq
      obtain ⟨Ax, hAx⟩ : ∃ Ax, Ax = A := ⟨_, rfl⟩
      subst hAx
      obtain ⟨cx, hcx⟩ : ∃ cx, cx = c := ⟨_, rfl⟩
      subst hcx
      go_wp2_with fail
      go_loopw [10, 12] (fun v iv wr => ∃ (k : Nat) (A : Option Addr) (c : Nat), k ≤ b.length ∧ iv = .int .i64 (k : Int) ∧ v = .slice A k c ∧ Hid (Ow Ty.str 9 wr (fun i => wq.heap.size ≤ i) (.slice A k c) (words (b.take k)) ∧ Fr No wq wr)) (fun _ iv _ => b.length - (intOf iv).toNat)
      case atStart => exact ⟨0, none, 0, Nat.zero_le _, rfl, rfl, Ow.nil, Fr.refl _ _⟩
      case round =>
        obtain ⟨k, A, c, hk, rfl, rfl, I⟩ := hrel
        have hk0 : (0 : Int) ≤ (k : Int) := Int.natCast_nonneg _
        by_cases hlt : k < b.length
        · have hk1 : (k : Int) < (b.length : Int) := by omega
          have hfw := (H1.out.next HX.out.2 (fun _ _ f => f.elim)).next I.out.2 (fun _ _ f => f.elim)
          obtain ⟨ad, rfl, x0⟩ := u8_at (H.out.2.fr0 hfw) hlt
          have hsucc := words_succ b hlt
          obtain ⟨u, hu⟩ : ∃ u, b[k] = u := ⟨_, rfl⟩
          rw [hu] at x0 hsucc
          have hconv : (convert 22 9 (.slice (some ⟨wr.heap.size, 0, none⟩) 1 1)).run Tryz.prog (wr.alloc (.cells #[.int .u8 (97 + (u.toNat : Int) % 3)] 5)) = .ok (.string (one (cq u))) _ := run_one_at _ _ (cq u) (cq_nat u).symm (heap_alloc_new _ _)
          have hlen : (words (b.take k)).length = k := by rw [words_len, List.length_take]; omega
          have hfa : Fr No wr (wr.alloc (.cells #[.int .u8 (97 + (u.toNat : Int) % 3)] 5)) := (Fr.refl No wr).alloc _
          obtain ⟨A2, c2, w2, hrun, hO2, hf2⟩ := strs_snoc (x := one (cq u)) (I.out.1.fr0 hfa) (by rw [hlen]; omega) (Nat.le_trans I.out.2.size hfa.size) rfl
          rw [hlen] at hrun hO2
          rw [← hsucc] at hO2
          have HS := Lib.hid (And.intro hO2 (I.out.2.next (G := fun i => wq.heap.size ≤ i) ((hfa.mono fun _ _ f => f.elim).next hf2 (fun _ _ g => g)) (fun i hi g => by omega)))
          rw [World.size_alloc] at hrun
          clear hO2 hf2 hsucc hlen hfa hu hfw
          go_wp2_with (at_builtin; refine wpList_plain rfl fun K hK => wp_append_run _ _ _ _ rfl rfl rfl hrun (hK _ _ ?_))
          go_roundw
          case rel => exact ⟨k + 1, A2, c2, by omega, by go_num, rfl, HS.out.1, HS.out.2⟩
          case measure => simp [intOf]; omega
        · obtain rfl : k = b.length := by omega
          have hIl := I.out.1
          rw [List.take_length] at hIl
          have HY := Lib.hid (And.intro hIl I.out.2)
          clear hIl I
          obtain ⟨wz, hwz⟩ : ∃ wz, wz = wr := ⟨_, rfl⟩
          subst hwz
          have hp := p.toNat_lt
          have hq := q.toNat_lt
          have hi : p.toNat % (b.length + 1) ≤ b.length := Nat.le_of_lt_succ (Nat.mod_lt _ (by omega))
          have hie : ((p.toNat : Int) % ((b.length : Int) + 1)) = ((p.toNat % (b.length + 1) : Nat) : Int) := rfl
          obtain ⟨i, hii⟩ : ∃ i, p.toNat % (b.length + 1) = i := ⟨_, rfl⟩
          rw [hii] at hi hie
          obtain ⟨m, hm⟩ : ∃ m, m = b.length - i + 1 := ⟨_, rfl⟩
          have hme : (b.length : Int) - (i : Int) + 1 = (m : Int) := by omega
          have hm1 : 0 < m := by omega
          have hm2 : (m : Int) ≤ 21 := by omega
          have hqe : ((q.toNat : Int) % (m : Int)) = ((q.toNat % m : Nat) : Int) := rfl
          obtain ⟨r, hr⟩ : ∃ r, q.toNat % m = r := ⟨_, rfl⟩
          have hrm : r < m := by rw [← hr]; exact Nat.mod_lt _ hm1
          rw [hr] at hqe
          have hi0 : (0 : Int) ≤ (i : Int) := Int.natCast_nonneg _
          have hir : (i : Int) + (r : Int) ≤ (b.length : Int) := by omega
          have hr0 : (0 : Int) ≤ (r : Int) := Int.natCast_nonneg _
          have hib : (i : Int) ≤ (b.length : Int) := by omega
          have hcapy := HY.out.1.rd.2.1
          obtain ⟨A', hcut, hrd⟩ := cut_strs A b.length c i r (by omega) hcapy
          have hX := fun (w2 : World) (f : Fr No wz w2) => ((HX.out.1.rd.2.2.fr0 HY.out.2).fr0 f)
          have hY := fun (w2 : World) (f : Fr No wz w2) => HY.out.1.rd.2.2.fr0 f
          have hcapx := HX.out.1.rd.2.1
          have hlx := words_len a
          have hly := words_len b
          have hZ := fun (w2 : World) (f : Fr No wz w2) => hrd _ _ _ hly (hY w2 f)
          have hlz : (((words b).take (i + r)).drop i).length = r := by rw [List.length_drop, List.length_take, hly]; omega
          have hmid : Pre (((words b).take (i + r)).drop i) (words b) := Pre.mid _ (Nat.le_add_right _ _) (by rw [hly]; omega)
          have hp1 := fun (w2 : World) (f : Fr No wz w2) => prefix_ok (c := cx) (d := c) (hX w2 f) (hY w2 f) (by rw [hly]; exact hcapy) (by rw [hlx]; omega) (by rw [hly]; omega)
          have hp2 := fun (w2 : World) (f : Fr No wz w2) => ref_prefix (c := cx) (d := c) (hX w2 f) (hY w2 f) (by rw [hly]; exact hcapy) (by rw [hlx]; omega) (by rw [hly]; omega)
          have hp3 := fun (w2 : World) (f : Fr No wz w2) => prefix_ok (c := c - i) (d := c) (hZ w2 f) (hY w2 f) (by rw [hly]; exact hcapy) (by rw [hlz]; omega) (by rw [hly]; omega)
          have hp4 := fun (w2 : World) (f : Fr No wz w2) => prefix_ok (F := fun _ => True) (A := none) (xs := []) (c := 0) (d := cx) Rd.nil (hX w2 f) (by rw [hlx]; exact hcapx) (by decide) (by rw [hlx]; omega)
          rw [hlx] at hp1 hp2 hp4
          rw [hly] at hp1 hp2 hp3
          rw [hlz] at hp3
          have HD := Lib.hid (And.intro hp1 (And.intro hp2 (And.intro hp3 (And.intro hp4 (And.intro hmid ((H1.out.next HX.out.2 (fun _ _ f => f.elim)).next HY.out.2 (fun _ _ f => f.elim)))))))
          clear hp1 hp2 hp3 hp4 hmid hX hY hZ hlx hly hlz hrd hm hrm hm1 hii hr hcapx hcapy
          go_wp2_with fail
          refine (HD.out.1 _ (Fr.refl _ _)).mono ?_
          rintro e w3 ⟨b1, rfl, hb1, hf3⟩
          have H3 := Lib.hid hf3
          have HB1 := Lib.hid hb1
          clear hf3 hb1
          go_wp2_with fail
          refine (HD.out.2.1 _ H3.out).mono ?_
          rintro e w4 ⟨b2, rfl, hb2, hf4⟩
          obtain rfl : b1 = b2 := Bool.eq_iff_iff.2 (HB1.out.trans hb2.symm)
          have H4 := Lib.hid (H3.out.next hf4 (fun _ _ f => f.elim))
          have hbb : (b1 == b1) = true := beq_self_eq_true _
          clear hf4 hb2
          go_wp2_with fail
          refine (HD.out.2.2.1 _ H4.out).mono ?_
          rintro e w5 ⟨b3, rfl, hb3, hf5⟩
          obtain rfl : b3 = true := hb3.2 HD.out.2.2.2.2.1
          have H5 := Lib.hid (H4.out.next hf5 (fun _ _ f => f.elim))
          clear hf5 hb3
          go_wp2_with fail
          refine (HD.out.2.2.2.1 _ H5.out).mono ?_
          rintro e w6 ⟨b4, rfl, hb4, hf6⟩
          obtain rfl : b4 = true := hb4.2 (Pre.nil _)
          have H6 := Lib.hid (H5.out.next hf6 (fun _ _ f => f.elim))
          clear hf6 hb4
          go_wp2_with fail
          go_ret
          exact ⟨rfl, HD.out.2.2.2.2.2.next H6.out (fun _ _ f => f.elim)⟩
end Go.Proofs.YtkjlipclimfoeaaGreatDoor
