/- Laws of layer 14 (tx): TxFull. -/
import Derived.Test.YtkcppngopdiljaaLaw20
import Derived.Laws.BytesArg
set_option linter.unusedVariables false
set_option linter.unusedSimpArgs false
namespace Go.Proofs.Ytkcppngopdiljaa
open Go.RowKit

def kb (q : UInt8) : ByteArray := ⟨#[q]⟩
def fullW (i : Nat) : List Wr := (List.range i).map fun j => ⟨kb (UInt8.ofNat j), [], false⟩
theorem kl_kb (a b : UInt8) : kl (kb a) (kb b) = decide (a < b) := by
  rw [kl_eq, toList_data, toList_data]
  show decide ([a] < [b]) = _
  simp [List.cons_lt_cons_iff]
theorem full_len (i : Nat) : (fullW i).length = i := by simp [fullW]
theorem full_done {i : Nat} (hi : i < 20) : wdone ⟨kb (UInt8.ofNat i), [], false⟩ (fullW i) = false := by
  unfold wdone fullW
  rw [List.any_eq_false]
  intro y hy
  obtain ⟨j, hj, rfl⟩ := List.mem_map.1 hy
  have hj' := List.mem_range.1 hj
  show ¬ (!kl (kb (UInt8.ofNat j)) (kb (UInt8.ofNat i))) = true
  rw [kl_kb, decide_eq_true (by rw [UInt8.lt_iff_toNat_lt, UInt8.toNat_ofNat', UInt8.toNat_ofNat']; omega)]
  simp
theorem full_step {i : Nat} (hi : i < 20) : wwrite (fullW i) ⟨kb (UInt8.ofNat i), [], false⟩ = (fullW (i + 1), 0) := by
  unfold wwrite
  rw [if_neg (by rw [full_len]; omega), wput_all (full_done hi)]
  simp [fullW, List.range_succ]
theorem full_mem {ws : List Wr} {x : Wr} (h : x ∈ fullW 20) : x.key.size ≤ 1 ∧ x.row = [] := by
  obtain ⟨j, _, rfl⟩ := List.mem_map.1 h
  exact ⟨Nat.le_refl _, rfl⟩
theorem full_find {q : UInt8} (hq : q.toNat < 20) : (wfind (kb q) (fullW 20)).isNone = false := by
  cases h : wfind (kb q) (fullW 20) with
  | some x => rfl
  | none =>
    refine absurd ?_ (wfind_none.1 h)
    refine List.mem_map.2 ⟨⟨kb (UInt8.ofNat q.toNat), [], false⟩, List.mem_map.2 ⟨q.toNat, List.mem_range.2 hq, rfl⟩, ?_⟩
    show kb (UInt8.ofNat q.toNat) = kb q
    rw [UInt8.ofNat_toNat]
def kNew : ByteArray := ⟨#[110, 101, 119]⟩
theorem full_new : wfind kNew (fullW 20) = none := wfind_none.2 fun h => by
  obtain ⟨x, hx, e⟩ := List.mem_map.1 h
  have := (full_mem (ws := []) hx).1
  rw [e] at this
  exact absurd this (by decide)
theorem full_no (r : Bs) (g : Bool) : wwrite (fullW 20) ⟨kNew, r, g⟩ = (fullW 20, 1) := by
  unfold wwrite
  rw [if_pos ⟨by rw [full_new]; rfl, by rw [full_len]; omega⟩]
/-- One that it has written may be written anew. -/
theorem again {ws : List Wr} {x : Wr} (hr : Rising (ws.map Wr.key)) (h : (wfind x.key ws).isNone = false) : wwrite ws x = (wput x ws, 0) ∧ (wput x ws).length = ws.length ∧ ∀ r g, (wfind x.key (wput ⟨x.key, r, g⟩ ws)).isNone = false := by
  refine ⟨?_, ?_, fun r g => ?_⟩
  · unfold wwrite; rw [h]; exact if_neg (by simp)
  · rw [wput_length hr, h]; rfl
  · rw [wfind_wput hr, if_pos rfl]; rfl

theorem run_kb (w : World) (q : UInt8) : (convert 27 9 (.slice (some ⟨w.heap.size, 0, none⟩) 1 1)).run Try.prog (w.alloc (.cells #[.int .u8 (q.toNat : Int)] 5)) = .ok (.string (kb q)) (w.alloc (.cells #[.int .u8 (q.toNat : Int)] 5)) := by
  have hb : (w.alloc (.cells #[.int .u8 (q.toNat : Int)] 5)).heap[w.heap.size]? = some (.cells #[.int .u8 (q.toNat : Int)] 5 (0, 0)) := heap_alloc_new w _
  have := run_convert_bytes_arg (P := Try.prog) (w.alloc (.cells #[.int .u8 (q.toNat : Int)] 5)) 27 5 Try.underlying27 Try.underlying5 w.heap.size 0 1 1 [(q.toNat : Int)] rfl (fun i hi => by
    rw [Nat.zero_add, blk_cell hb i]
    match i, hi with
    | 0, _ => rfl) 9 Try.underlying9
  have hs : strOfNums [(q.toNat : Int)] = kb q := by simp [strOfNums, kb]
  rw [hs] at this
  exact this

set_option maxHeartbeats 2000000 in
set_option maxRecDepth 100000 in
theorem law_full (b base : Int) (hb : (Lit.int .u8 b).wf = true) (w : World) : Calls Try.prog 3 #[.int .u8 b, .int .i64 base] w fun e w' => e = .returned (.bool true) ∧ Fr No w w' := by
  obtain ⟨q, rfl⟩ : ∃ q : UInt8, b = (q.toNat : Int) := by
    have h1 : 0 ≤ b ∧ b ≤ 255 := by
      unfold Lit.wf at hb
      simp [IntKind.wrap, IntKind.signed, IntKind.bits] at hb
      have a := hb.1
      have b' := hb.2
      simp [IntKind.min, IntKind.max, IntKind.signed, IntKind.bits] at a b'
      omega
    refine ⟨UInt8.ofNat b.toNat, ?_⟩
    rw [UInt8.toNat_ofNat']
    omega
  have kc2 : ∀ w0 : World, (convert 27 9 (.slice (some ⟨w0.heap.size, 0, none⟩) 1 1)).run Try.prog (w0.alloc (.cells #[.int .u8 ((q.toNat : Int) % 20)] 5)) = .ok (.string (kb (q % 20))) (w0.alloc (.cells #[.int .u8 ((q.toNat : Int) % 20)] 5)) := fun w0 => by
    have hmod : (q.toNat : Int) % 20 = ((q % 20).toNat : Int) := by rw [UInt8.toNat_mod]; rfl
    rw [hmod]
    exact run_kb w0 (q % 20)
  have hq20 : (q % 20).toNat < 20 := by rw [UInt8.toNat_mod]; exact Nat.mod_lt _ (by decide)
  go_enter Try.func3, Try.ntmps3
  go_wp2_with fail
  refine (law_both w).mono ?_
  rintro e1 w1 ⟨rfl, hf1⟩
  have HF1 := Lib.hid hf1
  clear hf1
  go_wp2_with fail
  refine (tx_new base w1).mono ?_
  rintro e2 w2 ⟨xb, rfl, ht2, hf2⟩
  have HT2 := Lib.hid (And.intro ht2 (And.intro (HF1.out.trans (hf2.mono fun _ _ f => f.elim)) hf2.size))
  clear ht2 hf2
  go_wp2_with fail
  go_loopw [6] (fun v wr => ∃ k : Nat, k ≤ 20 ∧ v = .int .i64 k ∧ Hid (TxAt wr (fun i => w1.heap.size ≤ i) xb base (fullW k) ∧ Fr No w wr ∧ w1.heap.size ≤ wr.heap.size)) (fun v _ => 20 - (intOf v).toNat)
  case atStart => exact ⟨0, Nat.zero_le _, rfl, HT2.out.1, HT2.out.2.1, HT2.out.2.2⟩
  case round =>
    obtain ⟨k, hk, rfl, I⟩ := hrel
    have hk0 : (0 : Int) ≤ (k : Int) := Int.natCast_nonneg _
    by_cases hlt : k < 20
    · have hk1 : (k : Int) < 20 := by omega
      have hw8 : IntKind.u8.wrap (k : Int) = (k : Int) := by simp [IntKind.wrap, IntKind.signed, IntKind.bits]; omega
      have hh : ((UInt8.ofNat k).toNat : Int) = (k : Int) := by rw [UInt8.toNat_ofNat']; omega
      have kc := fun w0 => run_kb w0 (UInt8.ofNat k)
      obtain ⟨key, hkey⟩ : ∃ key, kb (UInt8.ofNat k) = key := ⟨_, rfl⟩
      simp only [hh, hkey] at kc
      obtain ⟨W, hW⟩ : ∃ W, W = wr.alloc (.cells #[.int .u8 (k : Int)] 5) := ⟨_, rfl⟩
      have hfW : Fr No wr W := by rw [hW]; exact (Fr.refl No wr).alloc _
      have hput := tx_put (n := 0) (c := 0) (A := none) (row := []) (R := No) key (I.out.1.fr0 hfW) Rd.nil (by rw [full_len]; omega) rfl (by simp)
      rw [← hkey, full_step hlt, hkey] at hput
      have HP := Lib.hid (And.intro hput (I.out.2.1.trans (hfW.mono fun _ _ f => f.elim)))
      have hwW := hfW.size
      have hw1 := HF1.out.size
      clear hput hfW hh hkey
      go_wp2_with fail
      rw [← hW]
      clear hW
      refine HP.out.1.mono ?_
      rintro e3 w3 ⟨rfl, ht3, hf3⟩
      have hww : w1.heap.size ≤ W.heap.size := Nat.le_trans I.out.2.2 hwW
      have hz3 := hf3.size
      have HQ := Lib.hid (And.intro (ht3.mono (F' := fun i => w1.heap.size ≤ i) fun i hi _ => by
        rcases hi with hi | hi
        · exact hi
        · show w1.heap.size ≤ i; omega) (And.intro (HP.out.2.trans (hf3.mono fun i _ hi => .inr (Nat.le_trans hw1 hi))) (show w1.heap.size ≤ w3.heap.size by omega)))
      clear ht3 hf3
      go_wp2_with fail
      go_roundw
      case rel => exact ⟨k + 1, by omega, by go_num, HQ.out⟩
      case measure => simp [intOf]; omega
    · obtain rfl : k = 20 := by omega
      have hw1 := HF1.out.size
      have hput1 := tx_put (n := 0) (c := 0) (A := none) (row := []) (R := No) kNew (I.out.1.fr0 ((Fr.refl No wr).alloc (.cells #[.int .u8 ((q.toNat : Int) % 20)] 5))) Rd.nil (by rw [full_len]; omega) rfl (by simp)
      rw [full_no] at hput1
      have H1 := Lib.hid hput1
      clear hput1
      go_wp2_with fail
      change Calls _ _ #[_, .string kNew, _] _ _
      refine H1.out.mono ?_
      rintro e3 w3 ⟨rfl, ht3, hf3⟩
      have hz3 := hf3.size
      rw [World.size_alloc] at hz3
      have hdel1 := tx_del kNew (ht3.mono (F' := fun i => w1.heap.size ≤ i) fun i hi _ => by
        rcases hi with hi | hi
        · exact hi
        · rw [World.size_alloc] at hi; have := I.out.2.2; show w1.heap.size ≤ i; omega) (by rw [full_len]; omega)
      rw [full_no] at hdel1
      have hfw3 : Fr No w w3 := (I.out.2.1.alloc _).trans (hf3.mono fun i _ hi => .inr (Nat.le_trans hw1 hi))
      have H2 := Lib.hid (And.intro hdel1 hfw3)
      clear hdel1 ht3 hf3 hfw3
      go_wp2_with fail
      change Calls _ _ #[_, .string kNew] _ _
      refine H2.out.1.mono ?_
      rintro e4 w4 ⟨rfl, ht4, hf4⟩
      have hr4 := ht4.rising
      obtain ⟨ha1, ha2, ha3⟩ := again (x := ⟨kb (q % 20), [], true⟩) hr4 (full_find hq20)
      have hdel2 := tx_del (kb (q % 20)) ht4 (by rw [full_len]; omega)
      rw [ha1] at hdel2
      have H3 := Lib.hid (And.intro hdel2 (And.intro ha2 (And.intro (ha3 [] true) (H2.out.2.trans (hf4.mono fun i _ hi => .inr (Nat.le_trans hw1 hi))))))
      clear hdel2 ha1 ha2 ha3 ht4 hf4 hr4
      go_wp2_with fail
      refine H3.out.1.mono ?_
      rintro e5 w5 ⟨rfl, ht5, hf5⟩
      have hr5 := ht5.rising
      obtain ⟨hb1, hb2, _⟩ := again (x := ⟨kb (q % 20), [], false⟩) hr5 H3.out.2.2.1
      have hput2 := tx_put (n := 0) (c := 0) (A := none) (row := []) (R := No) (kb (q % 20)) ht5 Rd.nil (by rw [H3.out.2.1, full_len]; omega) rfl (by simp)
      rw [hb1] at hput2
      have H4 := Lib.hid (And.intro hput2 (And.intro hb2 (H3.out.2.2.2.trans (hf5.mono fun i _ hi => .inr (Nat.le_trans hw1 hi)))))
      clear hput2 hb1 hb2 ht5 hf5 hr5
      go_wp2_with fail
      refine H4.out.1.mono ?_
      rintro e6 w6 ⟨rfl, ht6, hf6⟩
      have hl6 : (wput ⟨kb (q % 20), [], false⟩ (wput ⟨kb (q % 20), [], true⟩ (fullW 20))).length = 20 := by rw [H4.out.2.1, H3.out.2.1, full_len]
      have hwr := tx_writes ht6 (by rw [hl6]; omega) (fun x hx => by
        rcases mem_wput hx with rfl | hx
        · exact ⟨by show (1 : Nat) ≤ _; omega, by simp⟩
        · rcases mem_wput hx with rfl | hx
          · exact ⟨by show (1 : Nat) ≤ _; omega, by simp⟩
          · have := full_mem (ws := []) hx
            exact ⟨by omega, by rw [this.2]; simp⟩)
      rw [hl6] at hwr
      have hH : w.heap.size ≤ w1.heap.size := hw1
      have H5 := Lib.hid (And.intro hwr (H4.out.2.2.trans (hf6.mono fun i _ hi => .inr (Nat.le_trans hw1 hi))))
      clear hwr ht6 hf6 hl6
      go_wp2_with fail
      refine H5.out.1.mono ?_
      rintro e7 w7 ⟨A7, c7, rfl, ho7, hf7⟩
      have H6 := Lib.hid (H5.out.2.trans (hf7.mono fun _ _ f => f.elim))
      clear ho7 hf7
      go_wp2_with fail
      go_ret
      exact ⟨rfl, H6.out⟩
end Go.Proofs.Ytkcppngopdiljaa
