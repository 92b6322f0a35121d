/- Reference 9 (trie): Half, Same, Digest. -/
import Derived.Test.YtlgmodeibmdcgaaDoorRef9c
set_option linter.unusedVariables false
set_option linter.unusedSimpArgs false
namespace Go.Proofs.YtlgmodeibmdcgaaDoor
open Go.RowKit

def SmallI (m : List Itm) : Prop := ∀ x ∈ m, x.1.size ≤ 1000 ∧ x.2.length ≤ 100000
def bv (b : Bool) : Nat := if b then 1 else 0
/-- An item's cells, with what they were at the start. -/
theorem itm_old {B : Nat} {w wr : World} {A : Option Addr} {m : List Itm} (h : RdI B w A m) (hf : Fr (fun i => w.heap.size ≤ i) w wr) {i : Nat} (hi : i < m.length) :
    ∃ ad R c, A = some ad ∧ w.cell? (ad.add (i * 2)) = some (.string m[i].1) ∧ w.cell? ⟨(ad.add (i * 2)).block, (ad.add (i * 2)).off + 1, none⟩ = some (.slice R m[i].2.length c) ∧ m[i].2.length ≤ c ∧ Rd Ty.u8 w (fun j => B ≤ j ∧ j < w.heap.size) R m[i].2 := by
  obtain ⟨ad, cs, e, hk, h0, h1⟩ := (show Rd tItm w (fun i => B ≤ i ∧ i < w.heap.size) A m from h.mono fun i a b => ⟨a, b⟩).get' hi (by decide)
  obtain ⟨c1, c2, rfl, k1, k2⟩ := hk
  obtain rfl : c1 = _ := k1
  obtain ⟨R, c, rfl, k3, k4⟩ := k2
  exact ⟨ad, R, c, e, h0 _ rfl, h1 1 _ (by decide) rfl, k3, k4⟩

set_option maxHeartbeats 4000000 in
set_option maxRecDepth 100000 in
theorem ref_half {B : Nat} {w : World} {A : Option Addr} {c : Nat} {m : List Itm} (d : Nat) (b : Bool) (h : RdI B w A m) (hs : SmallI m) (hd : d < 256) (hm : m.length ≤ 1000) (hB : B ≤ w.heap.size) :
    Calls Tryd.prog 23 #[.slice A m.length c, .int .i64 (d : Int), .int .i64 (bv b : Int)] w fun e w' => ∃ A1 c1, e = .returned (.slice A1 (half hbit m d b).length c1) ∧ Its B w.heap.size w' (.slice A1 (half hbit m d b).length c1) (half hbit m d b) ∧ Fr No w w' := by
  have kc := run_txt
  have hml : (m.length : Int) ≤ 1000 := by omega
  have hbit' := fun (p : ByteArray) (hp : p.size = 32) (w : World) => ref_bit p d (by omega) (by omega) w
  have H := Lib.hid (And.intro h (And.intro hs (And.intro hm (And.intro hB hbit'))))
  clear h hs hm hB hbit'
  have hd0 : (0 : Int) ≤ (d : Int) := Int.natCast_nonneg _
  obtain ⟨q, hq⟩ : ∃ q : Int, (bv b : Int) = q := ⟨_, rfl⟩
  have HQ := Lib.hid hq
  rw [hq]
  clear hq
  go_enter Tryd.func23, Tryd.ntmps23
  go_wp2_with fail
  go_loopw [7, 8] (fun v i wr => ∃ (k n : Nat) (A1 : Option Addr) (c1 : Nat), k ≤ m.length ∧ i = .int .i64 (k : Int) ∧ v = .slice A1 n c1 ∧ Hid (n = (half hbit (m.take k) d b).length ∧ Its B w.heap.size wr (.slice A1 n c1) (half hbit (m.take k) d b) ∧ Fr (fun i => w.heap.size ≤ i) w wr)) (fun _ i _ => m.length - (intOf i).toNat)
  case atStart => exact ⟨0, 0, none, 0, Nat.zero_le _, rfl, rfl, rfl, Its.nil, Fr.refl _ _⟩
  case round =>
    obtain ⟨k, n, A1, c1, hk, rfl, rfl, I⟩ := hrel
    obtain ⟨hn, hI, hf⟩ := I.out
    clear I
    have hf' := fr_old hf
    have hk0 : (0 : Int) ≤ (k : Int) := Int.natCast_nonneg _
    by_cases hlt : k < m.length
    · have hk1 : (k : Int) < (m.length : Int) := by omega
      obtain ⟨ad, R, cx, rfl, y0, y1, hcx, hx⟩ := itm_old H.out.1 hf hlt
      have x0 := old_cell hf y0
      have hks := (H.out.2.1 m[k] (List.getElem_mem hlt)).1
      have htake : half hbit (m.take (k + 1)) d b = if hbit m[k].1 d = b then half hbit (m.take k) d b ++ [m[k]] else half hbit (m.take k) d b := by
        rw [List.take_succ_eq_append_getElem hlt]
        unfold half
        rw [List.filter_append]
        by_cases e : hbit m[k].1 d = b <;> simp [e]
      have hdl : (half hbit (m.take k) d b).length ≤ 1000 := Nat.le_trans (List.length_filter_le _ _) (by rw [List.length_take]; have := H.out.2.2.1; omega)
      obtain ⟨W1, hW1⟩ : ∃ W1, W1 = txtW wr m[k].1 := ⟨_, rfl⟩
      have hfW1 : Fr No wr W1 := by rw [hW1]; exact txt_fr _ _
      have hsm := ref_sum (w := W1) (c := txtC wr m[k].1) (txt_rd' (w := wr) (s := m[k].1) (by rw [← hW1]; exact Fr.refl No W1) (by omega)) (by rw [keyB_len]; omega)
      rw [keyB_len, hW1] at hsm
      rw [hW1] at hfW1
      clear hW1
      have hbt : hbit m[k].1 d = bitB (sumK m[k].1) d := rfl
      have hbq := H.out.2.2.2.2 (sumK m[k].1) (sha_size _)
      rw [bitN_eq, ← hbt] at hbq
      by_cases hbb : hbit m[k].1 d = b
      · rw [if_pos hbb] at htake
        rw [hbb, show (((if b = true then 1 else 0) : Nat) : Int) = q from HQ.out] at hbq
        have HS := Lib.hid (And.intro hn (And.intro hI (And.intro hf (And.intro htake (And.intro hdl (And.intro hsm (And.intro hfW1 (And.intro hbq (And.intro hx (And.intro hcx (And.intro y0 y1)))))))))))
        obtain ⟨kx, hkx⟩ : ∃ kx, m[k].1 = kx := ⟨_, rfl⟩
        obtain ⟨lx, hlx⟩ : ∃ lx, m[k].2.length = lx := ⟨_, rfl⟩
        rw [hkx] at x0 HS
        have HKX := Lib.hid (And.intro hkx hlx)
        clear hn hI hf htake hdl hsm hfW1 hbq hx hcx hbb hbt hks y0 y1 hkx hlx
        go_wp2_with fail
        refine HS.out.2.2.2.2.2.1.mono ?_
        rintro e w1 ⟨rfl, hf1⟩
        have hfr1 := HS.out.2.2.1.next ((HS.out.2.2.2.2.2.2.1).next hf1 (fun _ _ f => f.elim)) (fun _ _ f => f.elim)
        have x0 := old_cell hfr1 HS.out.2.2.2.2.2.2.2.2.2.2.1
        have x1 := old_cell hfr1 HS.out.2.2.2.2.2.2.2.2.2.2.2
        obtain ⟨W, hW⟩ : ∃ W, W = w1.alloc (.cells #[.string m[k].1, .slice R m[k].2.length cx] 32) := ⟨_, rfl⟩
        have hI1 := HS.out.2.1.fr (HS.out.2.2.2.2.2.2.1.next hf1 (fun _ _ f => f.elim))
        rw [HS.out.1] at hI1
        obtain ⟨A2, c2, w2, hrun, hI2, hf2⟩ := its_snoc hI1 (by have := HS.out.2.2.2.2.1; omega) (rd_apart (HS.out.2.2.2.2.2.2.2.2.1.fr0 (fr_old hfr1)) hI1.2) HS.out.2.2.2.2.2.2.2.2.2.1 (Nat.le_trans H.out.2.2.2.1 hfr1.size) hfr1.size hW
        rw [← HS.out.1] at hrun hI2
        rw [HKX.out.1, HKX.out.2] at hW
        rw [HKX.out.2] at x1
        have HT := Lib.hid (And.intro hI2 (hfr1.next hf2 (fun _ _ e => e)))
        clear hI2 hfr1 hf2 hI1 hf1
        rw [show sha (keyB kx) = sumK kx from rfl]
        go_wp2_with (first
          | (go_at_call 47; refine (HS.out.2.2.2.2.2.2.2.1 _).mono ?_; rintro e w3 ⟨rfl, rfl⟩)
          | (at_builtin; rw [← hW]; refine wpList_plain rfl fun K hK => wp_append_run _ _ _ _ rfl rfl rfl hrun (hK _ _ ?_)))
        go_roundw
        case rel => exact ⟨k + 1, n + 1, A2, c2, by omega, by go_num, rfl, by rw [HS.out.2.2.2.1, List.length_append, ← HS.out.1]; rfl, by rw [HS.out.2.2.2.1]; exact HT.out.1, HT.out.2⟩
        case measure => simp [intOf]; omega
      · rw [if_neg hbb] at htake
        obtain ⟨q2, hq2⟩ : ∃ q2 : Int, (((if hbit m[k].1 d = true then 1 else 0) : Nat) : Int) = q2 := ⟨_, rfl⟩
        rw [hq2] at hbq
        have hqne : (q2 == q) = false := by
          rw [← hq2, ← HQ.out]
          unfold bv
          cases hc : hbit m[k].1 d <;> cases hb2 : b <;> rw [hc, hb2] at hbb <;> first | rfl | exact absurd rfl hbb
        have HS := Lib.hid (And.intro hn (And.intro hI (And.intro hf (And.intro htake (And.intro hsm (And.intro hfW1 hbq))))))
        obtain ⟨kx, hkx⟩ : ∃ kx, m[k].1 = kx := ⟨_, rfl⟩
        rw [hkx] at x0 HS
        clear hn hI hf htake hdl hsm hfW1 hbq hx hcx hbb hbt hks y0 y1 hkx hq2
        go_wp2_with fail
        refine HS.out.2.2.2.2.1.mono ?_
        rintro e w1 ⟨rfl, hf1⟩
        have hfr1 := HS.out.2.2.1.next ((HS.out.2.2.2.2.2.1).next hf1 (fun _ _ f => f.elim)) (fun _ _ f => f.elim)
        have hI1 := HS.out.2.1.fr (HS.out.2.2.2.2.2.1.next hf1 (fun _ _ f => f.elim))
        have HT := Lib.hid (And.intro hI1 hfr1)
        clear hfr1 hf1 hI1
        rw [show sha (keyB kx) = sumK kx from rfl]
        go_wp2_with (go_at_call 47; refine (HS.out.2.2.2.2.2.2 _).mono ?_; rintro e w3 ⟨rfl, rfl⟩)
        go_roundw
        case rel => exact ⟨k + 1, n, A1, c1, by omega, by go_num, rfl, by rw [HS.out.2.2.2.1]; exact HS.out.1, by rw [HS.out.2.2.2.1]; exact HT.out.1, HT.out.2⟩
        case measure => simp [intOf]; omega
    · obtain rfl : k = m.length := by omega
      rw [List.take_length] at hn hI
      have HS := Lib.hid (And.intro hI hf')
      subst hn
      clear hI hf hf'
      go_wp2_with fail
      go_ret
      exact ⟨A1, c1, rfl, HS.out.1, HS.out.2⟩
end Go.Proofs.YtlgmodeibmdcgaaDoor
