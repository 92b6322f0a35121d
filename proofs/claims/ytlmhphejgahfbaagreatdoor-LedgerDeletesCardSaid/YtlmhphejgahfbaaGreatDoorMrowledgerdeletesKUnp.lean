/- table.Unpack of what Pack has made; ledger.unpacked. -/
import Derived.Test.YtlmhphejgahfbaaGreatDoorMrowledgerdeletes38
import Derived.Test.YtlmhphejgahfbaaGreatDoorMrowledgerdeletesKFit
set_option linter.unusedVariables false
set_option linter.unusedSimpArgs false
namespace Go.Proofs.YtlmhphejgahfbaaGreatDoor
open Go.RowKit

/-- A row's bytes. -/
def packB (row : List Val) : Bs := UInt8.ofNat row.length :: row.flatMap encB
set_option maxHeartbeats 4000000 in
set_option maxRecDepth 100000 in
theorem unpack_ok {w : World} {F : Nat → Prop} {A : Option Addr} {n c : Nat} {p : Bs} {row : List Val} (h : Rd Ty.u8 w F A p) (hn : n = p.length) (hc : n ≤ c) (hl : p.length ≤ 100000) (hp : p = packB row) (hr : row.length ≤ 8) (hv : ∀ v ∈ row, DecV v) :
    Calls Tryz.prog 118 #[.slice A n c] w fun e w' => ∃ A' c', e = .returned (.tuple #[.slice A' row.length c', .int .i64 0]) ∧ Ow tVal 35 w' (fun i => w.heap.size ≤ i) (.slice A' row.length c') row ∧ Fr No w w' := by
  have hp' : p = UInt8.ofNat row.length :: row.flatMap encB := hp
  obtain ⟨m, hm⟩ : ∃ m, row.length = m := ⟨_, rfl⟩
  have hn1 : n = (row.flatMap encB).length + 1 := by rw [hn, hp', List.length_cons]
  obtain ⟨q, hq⟩ : ∃ q, (row.flatMap encB).length = q := ⟨_, rfl⟩
  rw [hq] at hn1
  subst hn1
  have hmb : ((UInt8.ofNat m).toNat : Int) = (m : Int) := by rw [UInt8.toNat_ofNat']; omega
  rw [hm] at hp' ⊢
  have hh : Rd Ty.u8 w F A (UInt8.ofNat m :: row.flatMap encB) := by rw [← hp']; exact h
  obtain ⟨ad, rfl, x0⟩ := u8_atF hh (i := 0) (by simp)
  have x0' : w.cell? (ad.add 0) = some (.int .u8 ((UInt8.ofNat m).toNat : Int)) := x0
  rw [hmb, add_zero'] at x0'
  obtain ⟨A1, hs1, hr1⟩ := cut_lo (P := Tryz.prog) Ty.u8 46 5 .i64 Tryz.underlying46 info_u8s (some ad) (q + 1) c 1 (by omega) hc
  have hr1' := hr1 w F _ (show (UInt8.ofNat m :: row.flatMap encB).length = q + 1 by rw [List.length_cons, hq]) hh
  rw [show (UInt8.ofNat m :: row.flatMap encB).drop 1 = row.flatMap encB from rfl] at hr1'
  rw [show q + 1 - 1 = q by omega] at hs1
  have hs1' : ∀ W : World, (Instr.slice 46 (.slice (some ad) (q + 1) c) (some (.int .i64 1)) none none).run Tryz.prog W = .ok (.slice A1 q (c - 1)) W := hs1
  have hqi : (q : Int) ≤ 100000 := by rw [← hn] at hl; omega
  have hmi : (m : Int) ≤ 8 := by omega
  have hm0 : (0 : Int) ≤ (m : Int) := Int.natCast_nonneg _
  have hq0 : (0 : Int) ≤ (q : Int) := Int.natCast_nonneg _
  have hqn : ¬ ((q : Int) + 1 = 0) := by omega
  have hcq : q ≤ c - 1 := by omega
  have H := Lib.hid (And.intro hr1' (And.intro hm (And.intro hq (And.intro hv (And.intro hr (Fr.refl No w))))))
  clear h hn hp hp' hm hq hv hr hr1 hr1' hh x0 hs1 hmb hl
  go_enter Tryz.func118, Tryz.ntmps118
  go_wp2_with fail
  refine wp_region_tail 6 (fun w' => w'.cell? ad = some (.int .u8 (m : Int))) (by kernel_rfl) (by exact x0') (fun hHeld => ?_)
  refine WalkTail.take (i := 0) (v := ?v0) rfl (by kernel_rfl) (fun _ _ _ h => h) (Or.inl ⟨by rfl, ?hy0⟩) (by assumption) ?_
  case hy0 => (intro w hSw; (try dsimp only at hSw); go_simp; try with_reducible rfl)
  (try simp only [Act.put, List.setIfInBounds_toArray, List.set_cons_zero, List.set_cons_succ])
  refine WalkTail.take (i := 1) (v := ?v1) rfl (by kernel_rfl) (fun _ _ _ h => h) (Or.inl ⟨by rfl, ?hy1⟩) (by assumption) ?_
  case hy1 => (intro w hSw; (try dsimp only at hSw); go_simp; try with_reducible rfl)
  (try simp only [Act.put, List.setIfInBounds_toArray, List.set_cons_zero, List.set_cons_succ])
  refine WalkTail.take (i := 2) (v := ?v2) rfl (by kernel_rfl) (fun _ _ _ h => h) (Or.inl ⟨by rfl, ?hy2⟩) (by assumption) ?_
  case hy2 => (intro w hSw; (try dsimp only at hSw); go_simp; try with_reducible rfl)
  (try simp only [Act.put, List.setIfInBounds_toArray, List.set_cons_zero, List.set_cons_succ])
  refine WalkTail.take (i := 3) (v := ?v3) rfl (by kernel_rfl) (fun _ _ _ h => h) (Or.inl ⟨by rfl, ?hy3⟩) (by assumption) ?_
  case hy3 => (intro w hSw; (try dsimp only at hSw); go_simp; try with_reducible rfl)
  (try simp only [Act.put, List.setIfInBounds_toArray, List.set_cons_zero, List.set_cons_succ])
  refine WalkTail.take (i := 4) (v := ?v4) rfl (by kernel_rfl) (fun _ _ _ h => h) (Or.inl ⟨by rfl, ?hy4⟩) (by assumption) ?_
  case hy4 => (intro w hSw; (try dsimp only at hSw); go_simp; try with_reducible rfl)
  (try simp only [Act.put, List.setIfInBounds_toArray, List.set_cons_zero, List.set_cons_succ])
  refine WalkTail.take (i := 5) (v := ?v5) rfl (by kernel_rfl) (fun _ _ _ h => h) (Or.inl ⟨by rfl, ?hy5⟩) (by assumption) ?_
  case hy5 => (intro w hSw; (try dsimp only at hSw); go_simp; try with_reducible rfl)
  (try simp only [Act.put, List.setIfInBounds_toArray, List.set_cons_zero, List.set_cons_succ])
  refine WalkTail.last rfl (by kernel_rfl) (by kernel_rfl) (fun K hK => ?_)
  go_simp
  refine hK.out _ _ ?_
  clear hK K
  have x0'' : w.drew.cell? ad = some (.int .u8 (m : Int)) := x0'
  obtain ⟨W, hW⟩ : ∃ W, W = w.drew := ⟨_, rfl⟩
  have hfW : Fr No w W := by rw [hW]; exact (Fr.refl No w).drew
  have HW := Lib.hid hfW
  rw [← hW] at x0'' ⊢
  clear hW hfW x0' hs1'
  go_wp2_with fail
  go_loopw [5, 6, 19] (fun qv lv iv wr => ∃ (k qn cq cl : Nat) (Aq Al : Option Addr), k ≤ m ∧ iv = .int .u8 (k : Int) ∧ lv = .slice Al k cl ∧ qv = .slice Aq qn cq ∧ qn = ((row.drop k).flatMap encB).length ∧ qn ≤ cq ∧ qn ≤ q ∧ Hid (Rd Ty.u8 wr (fun i => i < wr.heap.size) Aq ((row.drop k).flatMap encB) ∧ Ow tVal 35 wr (fun i => w.heap.size ≤ i) (.slice Al k cl) (row.take k) ∧ Fr No w wr)) (fun _ _ iv _ => m - (intOf iv).toNat)
  case atStart => exact ⟨0, q, c - 1, 0, A1, none, Nat.zero_le _, rfl, rfl, rfl, H.out.2.2.1.symm, hcq, Nat.le_refl _, (H.out.1.fr0 HW.out).mono fun i _ hl => hl, Ow.nil, HW.out⟩
  case round =>
    obtain ⟨k, qn, cq, cl, Aq, Al, hk, rfl, rfl, rfl, hqn', hcq', hqq, I⟩ := hrel
    have hk0 : (0 : Int) ≤ (k : Int) := Int.natCast_nonneg _
    by_cases hlt : k < m
    · have hk1 : (k : Int) < (m : Int) := by omega
      have hkr : k < row.length := by have := H.out.2.1; omega
      have hdr : (row.drop k).flatMap encB = encB row[k] ++ (row.drop (k + 1)).flatMap encB := by
        rw [List.drop_eq_getElem_cons hkr, List.flatMap_cons]
      have hdv := H.out.2.2.2.1 row[k] (List.getElem_mem hkr)
      have htk : row.take (k + 1) = row.take k ++ [row[k]] := by rw [List.take_succ_eq_append_getElem hkr]
      obtain ⟨v, hve⟩ : ∃ v, row[k] = v := ⟨_, rfl⟩
      rw [hve] at hdr hdv htk
      have hdec := decode_ok hdv I.out.1 hqn' hcq' (by omega) hdr
      have hl2 : ((row.drop (k + 1)).flatMap encB).length ≤ q := by rw [hdr, List.length_append] at hqn'; omega
      have hw8 : IntKind.u8.wrap ((k : Int) + 1) = (k : Int) + 1 := IntWalk.u8_in _ (by omega)
      obtain ⟨q2, hq2⟩ : ∃ q2, ((row.drop (k + 1)).flatMap encB).length = q2 := ⟨_, rfl⟩
      rw [hq2] at hdec hl2
      have HD := Lib.hid (And.intro hdec (And.intro htk hq2))
      clear hdec htk hq2 hdr hdv hve hqn' hcq' hqq
      go_wp2_with fail
      refine HD.out.1.mono ?_
      rintro e w2 ⟨A2, c2, rfl, ho2, hf2⟩
      have hlen : (row.take k).length = k := by rw [List.length_take]; have := H.out.2.1; omega
      obtain ⟨W3, hW3⟩ : ∃ W3, W3 = (w2.alloc (.cells #[.int .u8 (v.1.toNat : Int), .int .i64 v.2.1, .string v.2.2] 35)).alloc (.cells #[.int .u8 (v.1.toNat : Int), .int .i64 v.2.1, .string v.2.2] 35) := ⟨_, rfl⟩
      have hf3 : Fr No w2 W3 := by rw [hW3]; exact ((Fr.refl No w2).alloc _).alloc _
      have hA3 : At W3 (some ⟨w2.heap.size + 1, 0, none⟩) [.int .u8 (v.1.toNat : Int), .int .i64 v.2.1, .string v.2.2] := by rw [hW3]; exact At.block (blk_two2 w2 _ _)
      obtain ⟨A4, c4, w4, hrun, hO4, hg4, _⟩ := run_ow_append (P := Tryz.prog) (ty := 36) (ty' := 36) tVal ((I.out.2.1.fr0 hf2).fr0 hf3) (.agg #[.int .u8 0, .int .i64 0, .string ⟨#[]⟩]) 32 Tryz.underlying36 info_val rfl (by decide) (by decide) 1 (ys := [v])
        (Row.single (t := tVal) ⟨[.int .u8 (v.1.toNat : Int)], [.int .i64 v.2.1, .string v.2.2], rfl, rfl, [.int .i64 v.2.1], [.string v.2.2], rfl, rfl, rfl⟩) hA3 (by rw [hlen]; simp only [List.length_singleton]; omega)
      rw [hlen] at hrun hO4
      simp only [List.length_singleton] at hrun hO4
      rw [← HD.out.2.1] at hO4
      have hsz := (hf2.next hf3 (fun _ _ f => f.elim) (F := No)).size
      have hf4 : Fr No w w4 := ((I.out.2.2.next hf2 (fun _ _ f => f.elim)).next hf3 (fun _ _ f => f.elim)).grown hg4 fun i hi => .inr (I.out.2.1.own hi).1
      have hfr4 : Fr (fun i => (Value.slice Al k cl).ownBlock = some i) w2 w4 := (hf3.mono fun _ _ f => f.elim).grown hg4 fun i hi => .inl hi
      have hR4 : Rd Ty.u8 w4 (fun i => i < w4.heap.size) A2 ((row.drop (k + 1)).flatMap encB) := (ho2.rd.2.2.fr hfr4 (fun i hi e => by
        have h1 := (I.out.2.1.own e).2
        have h2 : wr.heap.size ≤ i := hi
        omega)).mono fun i _ hl => hl
      have HH := Lib.hid (And.intro hR4 (And.intro (hO4.mono (G := fun i => w.heap.size ≤ i) fun i hi _ => by have := I.out.2.2.size; rcases hi with hi | hi <;> omega) (And.intro hf4 ho2.rd.2.1)))
      clear ho2 hf2 hlen hf3 hA3 hO4 hg4 hsz hf4 hfr4 hR4
      obtain ⟨v0, v1, v2⟩ := v
      unfold vA
      dsimp only at hrun hW3 ⊢
      go_wp2_with (at_builtin; rw [← hW3]; refine wpList_plain rfl fun K hK => wp_append_run _ _ _ _ rfl rfl rfl hrun (hK _ _ ?_))
      go_roundw
      case rel => exact ⟨k + 1, q2, c2, c4, A2, A4, by omega, by go_num, rfl, rfl, HD.out.2.2.symm, HH.out.2.2.2, hl2, HH.out.1, HH.out.2.1, HH.out.2.2.1⟩
      case measure => simp [intOf]; omega
    · obtain rfl : k = m := by omega
      have hz : qn = 0 := by rw [hqn', List.drop_of_length_le (by have := H.out.2.1; omega)]; rfl
      subst hz
      have ht : row.take k = row := List.take_of_length_le (by have := H.out.2.1; omega)
      have HH := Lib.hid (And.intro ht I.out)
      clear ht hqn' I
      go_wp2_with fail
      go_ret2
      exact ⟨Al, cl, rfl, by have := HH.out.2.2.1; rwa [HH.out.1] at this, HH.out.2.2.2⟩
set_option maxHeartbeats 1000000 in
set_option maxRecDepth 100000 in
theorem unpacked_ok {w : World} {F : Nat → Prop} {A : Option Addr} {n c : Nat} {p : Bs} {row : List Val} (h : Rd Ty.u8 w F A p) (hn : n = p.length) (hc : n ≤ c) (hl : p.length ≤ 100000) (hp : p = packB row) (hr : row.length ≤ 8) (hv : ∀ v ∈ row, DecV v) :
    Calls Tryz.prog 61 #[.slice A n c] w fun e w' => ∃ A' c', e = .returned (.slice A' row.length c') ∧ Ow tVal 35 w' (fun i => w.heap.size ≤ i) (.slice A' row.length c') row ∧ Fr No w w' := by
  have H := Lib.hid (unpack_ok h hn hc hl hp hr hv)
  clear h hn hc hl hp hv
  obtain ⟨m, hm⟩ : ∃ m, row.length = m := ⟨_, rfl⟩
  rw [hm] at H ⊢
  clear hm hr
  go_enter Tryz.func61, Tryz.ntmps61
  go_wp2_with fail
  refine H.out.mono ?_
  rintro e w1 ⟨A1, c1, rfl, ho, hf⟩
  have H1 := Lib.hid (And.intro ho hf)
  clear ho hf
  go_wp2_with fail
  go_ret
  exact ⟨A1, c1, rfl, H1.out.1, H1.out.2⟩
end Go.Proofs.YtlmhphejgahfbaaGreatDoor
