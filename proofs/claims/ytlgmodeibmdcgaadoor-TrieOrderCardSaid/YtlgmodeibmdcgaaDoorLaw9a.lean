/- Laws of layer 9 (trie): back, small, key, made. -/
import Derived.Test.YtlgmodeibmdcgaaDoorGood
set_option linter.unusedVariables false
set_option linter.unusedSimpArgs false
namespace Go.Proofs.YtlgmodeibmdcgaaDoor
open Go.RowKit

abbrev Act9 := Bool × UInt8 × Bs
abbrev tAct9 : Ty Act9 := Ty.pair Ty.bool (Ty.pair Ty.u8 (Ty.slice Ty.u8))
def kq (q : UInt8) : ByteArray := key2 107 (q % 24)
theorem kq_key (q : UInt8) : IsKey (kq q) := by
  left
  refine ⟨(q % 24).toNat, ?_, ?_⟩
  · have h : (q % 24).toNat = q.toNat % 24 := by simp
    omega
  · unfold kq; rw [UInt8.ofNat_toNat]
/-- One act more. -/
def stepI (m : List Itm) (a : Act9) : List Itm := if a.1 then delL m (kq a.2.1) else putL m (kq a.2.1, a.2.2)
def itemsOf (l : List Act9) : List Itm := l.foldl stepI []
def smallB (l : List Act9) : Bool := l.all (fun a => decide (a.2.2.length ≤ 20)) && decide (l.length ≤ 40)
theorem stepI_good {m : List Itm} (g : GoodM m) (a : Act9) (ha : a.2.2.length ≤ 1000) (hm : m.length < 600) : GoodM (stepI m a) ∧ (stepI m a).length ≤ m.length + 1 := by
  unfold stepI
  split
  · exact ⟨g.del _, Nat.le_trans (List.length_filter_le _ _) (Nat.le_succ _)⟩
  · exact ⟨g.put (x := (kq a.2.1, a.2.2)) (kq_key _) ha hm, putL_len _ _⟩
theorem foldI_good {l : List Act9} (hl : ∀ a ∈ l, a.2.2.length ≤ 1000) : ∀ {m : List Itm}, GoodM m → m.length + l.length ≤ 500 → GoodM (l.foldl stepI m) ∧ (l.foldl stepI m).length ≤ m.length + l.length := by
  induction l with
  | nil => intro m g h; exact ⟨g, Nat.le_refl _⟩
  | cons a l ih =>
    intro m g h
    simp only [List.length_cons] at h
    obtain ⟨g1, g2⟩ := stepI_good g a (hl a (by simp)) (by omega)
    obtain ⟨i1, i2⟩ := ih (fun x hx => hl x (by simp [hx])) g1 (by omega)
    exact ⟨i1, by simp only [List.length_cons, List.foldl_cons]; omega⟩
theorem itemsOf_good {l : List Act9} (hl : ∀ a ∈ l, a.2.2.length ≤ 20) (h : l.length ≤ 40) : GoodM (itemsOf l) ∧ (itemsOf l).length ≤ l.length := by
  have := foldI_good (l := l) (fun a ha => Nat.le_trans (hl a ha) (by decide)) GoodM.nil (by simp; omega)
  simpa [itemsOf] using this
theorem smallB_all {l : List Act9} (h : smallB l = true) : (∀ a ∈ l, a.2.2.length ≤ 20) ∧ l.length ≤ 40 := by
  unfold smallB at h
  simpa using h
theorem itemsOf_succ (l : List Act9) {k : Nat} (h : k < l.length) : itemsOf (l.take (k + 1)) = stepI (itemsOf (l.take k)) l[k] := by
  unfold itemsOf
  rw [List.take_succ_eq_append_getElem h, List.foldl_append]
  rfl
theorem itemsOf_take {l : List Act9} (hl : ∀ a ∈ l, a.2.2.length ≤ 20) (h : l.length ≤ 40) (k : Nat) : GoodM (itemsOf (l.take k)) ∧ (itemsOf (l.take k)).length ≤ 40 := by
  obtain ⟨g1, g2⟩ := itemsOf_good (l := l.take k) (fun a ha => hl a (List.mem_of_mem_take ha)) (by rw [List.length_take]; omega)
  exact ⟨g1, by rw [List.length_take] at g2; omega⟩

set_option maxHeartbeats 1000000 in
set_option maxRecDepth 100000 in
theorem key_ok (w : World) (d : Bool) (q : UInt8) (s : Value) : Calls Tryd.prog 32 #[.agg #[.bool d, .int .u8 (q.toNat : Int), s]] w fun e w' => e = .returned (.string (kq q)) ∧ Fr No w w' := by
  obtain ⟨W1, hW1⟩ : ∃ W1, W1 = w.alloc (.cells #[.bool d, .int .u8 (q.toNat : Int), s] 34) := ⟨_, rfl⟩
  have hs1 : W1.heap.size = w.heap.size + 1 := by rw [hW1]; simp
  have hq : ((q.toNat : Int) % 24) = ((q % 24).toNat : Int) := by simp
  have hrd := rd_new (w := W1) (t := 5) (cs := #[.int .u8 107, .int .u8 ((q.toNat : Int) % 24)]) (p := [107, q % 24]) (Fr.refl No _) (by rw [hq]; rfl) (by simp)
  have hstr := run_str (c := 2) hrd (n := 2) rfl
  have hk : (⟨([107, q % 24] : Bs).toArray⟩ : ByteArray) = kq q := rfl
  rw [hk, hs1, hW1] at hstr
  have hf : Fr No w ((w.alloc (.cells #[.bool d, .int .u8 (q.toNat : Int), s] 34)).alloc (.cells #[.int .u8 107, .int .u8 ((q.toNat : Int) % 24)] 5)) := ((Fr.refl No w).alloc _).alloc _
  have HF := Lib.hid hf
  have hq0 : (0 : Int) ≤ (q.toNat : Int) := Int.natCast_nonneg _
  have hq1 : (q.toNat : Int) < 256 := by have := q.toNat_lt; omega
  clear hq hrd hk hW1 hs1 hf
  go_enter Tryd.func32, Tryd.ntmps32
  go_wp2_with fail
  go_ret
  exact ⟨rfl, HF.out⟩

/-- An act's cells. -/
theorem act_at {w : World} {F : Nat → Prop} {A : Option Addr} {l : List Act9} (h : Rd tAct9 w F A l) {i : Nat} (hi : i < l.length) :
    ∃ ad R c, A = some ad ∧ w.cell? (ad.add (i * 3)) = some (.bool l[i].1) ∧ w.cell? ⟨(ad.add (i * 3)).block, (ad.add (i * 3)).off + 1, none⟩ = some (.int .u8 (l[i].2.1.toNat : Int)) ∧ w.cell? ⟨(ad.add (i * 3)).block, (ad.add (i * 3)).off + 2, none⟩ = some (.slice R l[i].2.2.length c) ∧ Rd Ty.u8 w F R l[i].2.2 := by
  obtain ⟨ad, cs, e, hk, h0, h1⟩ := h.get' hi (by decide)
  obtain ⟨c1, c2, rfl, k1, k2⟩ := hk
  obtain rfl : c1 = _ := k1
  obtain ⟨c3, c4, rfl, k3, k4⟩ := k2
  obtain rfl : c3 = _ := k3
  obtain ⟨R, c, rfl, _, k5⟩ := k4
  exact ⟨ad, R, c, e, h0 _ rfl, h1 1 _ (by decide) rfl, h1 2 _ (by decide) rfl, k5⟩

set_option maxHeartbeats 1000000 in
set_option maxRecDepth 100000 in
theorem small_ok {w : World} {F : Nat → Prop} {A : Option Addr} {c : Nat} {l : List Act9} (h : Rd tAct9 w F A l) :
    Calls Tryd.prog 11 #[.slice A l.length c] w fun e w' => e = .returned (.bool (smallB l)) ∧ w' = w := by
  have hl63 := h.1
  have H := Lib.hid h
  clear h
  go_enter Tryd.func11, Tryd.ntmps11
  go_wp2_with fail
  go_loop [3] (fun i => ∃ k : Nat, k ≤ l.length ∧ i = .int .i64 (k : Int) ∧ Hid (∀ a ∈ l.take k, a.2.2.length ≤ 20)) (fun i => l.length - (intOf i).toNat)
  case atStart => exact ⟨0, Nat.zero_le _, rfl, fun a ha => by simp at ha⟩
  case round =>
    obtain ⟨k, hk, rfl, I⟩ := hrel
    have hk0 : (0 : Int) ≤ (k : Int) := Int.natCast_nonneg _
    by_cases hlt : k < l.length
    · have hk1 : (k : Int) < (l.length : Int) := by omega
      obtain ⟨ad, R, cx, rfl, _, _, x2, _⟩ := act_at H.out hlt
      have hnext : l[k].2.2.length ≤ 20 → ∀ a ∈ l.take (k + 1), a.2.2.length ≤ 20 := by
        intro h a ha
        rw [List.take_succ_eq_append_getElem hlt] at ha
        rcases List.mem_append.1 ha with e | e
        · exact I.out a e
        · rw [List.mem_singleton.1 e]; exact h
      have hno : ¬ l[k].2.2.length ≤ 20 → smallB l = false := by
        intro h
        cases hb : smallB l with
        | false => rfl
        | true => exact absurd ((smallB_all hb).1 _ (List.getElem_mem hlt)) h
      obtain ⟨n, hn⟩ : ∃ n, l[k].2.2.length = n := ⟨_, rfl⟩
      rw [hn] at hnext hno x2
      by_cases h20 : n ≤ 20
      · have HN := Lib.hid (hnext h20)
        have h20i : (n : Int) ≤ 20 := by omega
        clear hnext hno hn h20
        go_wp2_with fail
        go_round
        case rel => exact ⟨k + 1, by omega, by go_num, HN.out⟩
        case measure => simp [intOf]; omega
      · have HN := Lib.hid (hno h20)
        have h20i : (20 : Int) < (n : Int) := by omega
        clear hnext hno hn h20
        go_wp2_with fail
        go_ret
        rw [HN.out]
        exact ⟨rfl, rfl⟩
    · obtain rfl : k = l.length := by omega
      have hfin : smallB l = decide ((l.length : Int) ≤ 40) := by
        have h1 := I.out
        rw [List.take_length] at h1
        unfold smallB
        have : l.all (fun a => decide (a.2.2.length ≤ 20)) = true := by simpa using h1
        rw [this, Bool.true_and, Bool.eq_iff_iff, decide_eq_true_eq, decide_eq_true_eq]
        omega
      have HF := Lib.hid hfin
      clear hfin
      go_wp2_with fail
      go_ret
      exact ⟨by rw [HF.out]; first | rfl | (congr 2; congr 1; simp), rfl⟩
end Go.Proofs.YtlgmodeibmdcgaaDoor
