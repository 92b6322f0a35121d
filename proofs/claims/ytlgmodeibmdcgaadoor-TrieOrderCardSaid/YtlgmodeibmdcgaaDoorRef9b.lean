/- Reference 9 (trie): Get, Keys; texts alike. -/
import Derived.Test.YtlgmodeibmdcgaaDoorRef9
set_option linter.unusedVariables false
set_option linter.unusedSimpArgs false
namespace Go.Proofs.YtlgmodeibmdcgaaDoor
open Go.RowKit

/-- What the reference answers of a key. -/
def RGot (B : Nat) (w : World) : Option Bs → Ending → World → Prop
  | none, e, w' => e = .returned (.tuple #[.slice none 0 0, .bool false]) ∧ w' = w
  | some r, e, w' => ∃ A c, e = .returned (.tuple #[.slice A r.length c, .bool true]) ∧ r.length ≤ c ∧ Rd Ty.u8 w (fun i => B ≤ i) A r ∧ w' = w
set_option maxHeartbeats 2000000 in
set_option maxRecDepth 100000 in
theorem ref_get {B : Nat} {w : World} {A : Option Addr} {c : Nat} {m : List Itm} (key : ByteArray) (h : RdI B w A m) (hm : m.length ≤ 1000) :
    Calls Tryd.prog 30 #[.slice A m.length c, .string key] w (RGot B w (getL m key)) := by
  have hml : (m.length : Int) ≤ 1000 := by omega
  have H := Lib.hid (And.intro h hm)
  clear h hm
  obtain ⟨g, hg⟩ : ∃ g, getL m key = g := ⟨_, rfl⟩
  rw [hg]
  have HG := Lib.hid hg
  clear hg
  go_enter Tryd.func30, Tryd.ntmps30
  go_wp2_with fail
  go_loop [6] (fun i => ∃ k : Nat, k ≤ m.length ∧ i = .int .i64 (k : Int) ∧ Hid (getL (m.drop k) key = g)) (fun i => m.length - (intOf i).toNat)
  case atStart => exact ⟨0, Nat.zero_le _, rfl, HG.out⟩
  case round =>
    obtain ⟨k, hk, rfl, I⟩ := hrel
    have hk0 : (0 : Int) ≤ (k : Int) := Int.natCast_nonneg _
    by_cases hlt : k < m.length
    · have hk1 : (k : Int) < (m.length : Int) := by omega
      obtain ⟨ad, R, cx, rfl, x0, x1, hcx, hx⟩ := itm_at H.out.1 hlt
      have hd : m.drop k = m[k] :: m.drop (k + 1) := List.drop_eq_getElem_cons hlt
      have hgd := I.out
      rw [hd] at hgd
      have hgd' : (if m[k].1 = key then some m[k].2 else getL (m.drop (k + 1)) key) = g := hgd
      by_cases hkk : m[k].1 = key
      · rw [if_pos hkk] at hgd'
        rw [hkk] at x0
        have HS := Lib.hid (And.intro hgd' (And.intro hcx hx))
        clear hgd hgd' hd hkk hcx hx
        go_wp2_with fail
        go_ret2
        rw [← HS.out.1]
        exact ⟨R, cx, rfl, HS.out.2.1, HS.out.2.2, rfl⟩
      · rw [if_neg hkk] at hgd'
        have hne : (m[k].1.toList == key.toList) = false := by rw [beq_toList]; exact decide_eq_false hkk
        have HS := Lib.hid hgd'
        clear hgd hgd' hd hkk hcx hx
        go_wp2_with fail
        go_round
        case rel => exact ⟨k + 1, by omega, by go_num, HS.out⟩
        case measure => simp [intOf]; omega
    · obtain rfl : k = m.length := by omega
      have hgd := I.out
      rw [List.drop_length] at hgd
      have HS := Lib.hid (show none = g from hgd)
      clear hgd
      go_wp2_with fail
      go_ret2
      rw [← HS.out]
      exact ⟨rfl, rfl⟩

/-- Texts of one's own. -/
theorem strs_snoc {N : Nat} {w W : World} {v : Value} {l : List ByteArray} {x : ByteArray} (h : Ow Ty.str 9 w (fun i => N ≤ i) v l) (hl : l.length ≤ 1000000) (hN : N ≤ w.heap.size) (hW : W = w.alloc (.cells #[.string x] 9)) :
    ∃ A1 c1 w1, (Builtin.append_ #[57, 57] 57 #[v, .slice (some ⟨w.heap.size, 0, none⟩) 1 1]).run Tryd.prog W = .ok (.slice A1 (l.length + 1) c1) w1 ∧ Ow Ty.str 9 w1 (fun i => N ≤ i) (.slice A1 (l.length + 1) c1) (l ++ [x]) ∧ Fr (fun i => N ≤ i) w w1 := by
  have hfW : Fr No w W := by rw [hW]; exact (Fr.refl No w).alloc _
  have hsz : W.heap.size = w.heap.size + 1 := by rw [hW]; simp
  have hA : At W (some ⟨w.heap.size, 0, none⟩) [.string x] := by rw [hW]; exact At.block (heap_alloc_new w _)
  have hrow : Row Ty.str W (fun i => N ≤ i ∧ v.ownBlock ≠ some i) [x] [.string x] := Row.single (t := Ty.str) rfl
  obtain ⟨A1, c1, w1, hrun, hO, hg, hat⟩ := run_ow_append (P := Tryd.prog) (ty := 57) (ty' := 57) Ty.str (h.fr0 hfW) (.string ⟨#[]⟩) 16 Tryd.underlying57 info_str rfl (by decide) (by decide) 1 (ys := [x]) hrow hA (by simp; omega)
  refine ⟨A1, c1, w1, hrun, hO.mono fun i hi _ => ?_, (hfW.mono fun _ _ f => f.elim).grown hg fun k hk => .inl (h.own hk).1⟩
  rcases hi with hi | hi <;> omega
set_option maxHeartbeats 2000000 in
set_option maxRecDepth 100000 in
theorem ref_keys {B : Nat} {w : World} {A : Option Addr} {c : Nat} {m : List Itm} (h : RdI B w A m) (hm : m.length ≤ 1000) :
    Calls Tryd.prog 31 #[.slice A m.length c] w fun e w' => ∃ A1 c1, e = .returned (.slice A1 m.length c1) ∧ Ow Ty.str 9 w' (fun i => w.heap.size ≤ i) (.slice A1 m.length c1) (m.map (·.1)) ∧ Fr No w w' := by
  have hml : (m.length : Int) ≤ 1000 := by omega
  have H := Lib.hid (And.intro h hm)
  clear h hm
  go_enter Tryd.func31, Tryd.ntmps31
  go_wp2_with fail
  go_loopw [3, 4] (fun v i wr => ∃ (k : Nat) (A1 : Option Addr) (c1 : Nat), k ≤ m.length ∧ i = .int .i64 (k : Int) ∧ v = .slice A1 k c1 ∧ Hid (Ow Ty.str 9 wr (fun i => w.heap.size ≤ i) (.slice A1 k c1) ((m.take k).map (·.1)) ∧ Fr (fun i => w.heap.size ≤ i) w wr)) (fun _ i _ => m.length - (intOf i).toNat)
  case atStart => exact ⟨0, none, 0, Nat.zero_le _, rfl, rfl, Ow.nil, Fr.refl _ _⟩
  case round =>
    obtain ⟨k, A1, c1, hk, rfl, rfl, I⟩ := hrel
    obtain ⟨hI, hf⟩ := I.out
    clear I
    have hf' : Fr No w wr := ⟨hf.os, hf.tape, hf.output, hf.size, fun i hi _ => hf.block i hi (by omega)⟩
    have hk0 : (0 : Int) ≤ (k : Int) := Int.natCast_nonneg _
    by_cases hlt : k < m.length
    · have hk1 : (k : Int) < (m.length : Int) := by omega
      obtain ⟨ad, R, cx, rfl, x0, x1, hcx, hx⟩ := itm_at (H.out.1.fr0 hf') hlt
      have htake : (m.take (k + 1)).map (·.1) = (m.take k).map (·.1) ++ [m[k].1] := by
        rw [List.take_succ_eq_append_getElem hlt, List.map_append]; rfl
      have hlen : ((m.take k).map (·.1)).length = k := by rw [List.length_map, List.length_take]; omega
      obtain ⟨W, hW⟩ : ∃ W, W = wr.alloc (.cells #[.string m[k].1] 9) := ⟨_, rfl⟩
      obtain ⟨A2, c2, w2, hrun, hI2, hf2⟩ := strs_snoc hI (by rw [hlen]; have := H.out.2; omega) hf.size hW
      rw [hlen] at hrun hI2
      rw [← htake] at hI2
      have HS := Lib.hid (And.intro hI2 (hf.trans (hf2.mono fun i _ e => .inl e)))
      clear hI hI2 hf hf' hx htake hlen hcx hf2
      obtain ⟨kx, hkx⟩ : ∃ kx, m[k].1 = kx := ⟨_, rfl⟩
      rw [hkx] at x0 hW
      clear hkx x1
      go_wp2_with (at_builtin; rw [← hW]; refine wpList_plain rfl fun K hK => wp_append_run _ _ _ _ rfl rfl rfl hrun (hK _ _ ?_))
      go_roundw
      case rel => exact ⟨k + 1, A2, c2, by omega, by go_num, rfl, HS.out.1, HS.out.2⟩
      case measure => simp [intOf]; omega
    · obtain rfl : k = m.length := by omega
      rw [List.take_length] at hI
      have HS := Lib.hid (And.intro hI hf')
      clear hI hf hf'
      go_wp2_with fail
      go_ret
      exact ⟨A1, c1, rfl, HS.out.1, HS.out.2⟩
theorem str_at {w : World} {F : Nat → Prop} {A : Option Addr} {l : List ByteArray} (h : Rd Ty.str w F A l) {i : Nat} (hi : i < l.length) : ∃ ad, A = some ad ∧ w.cell? (ad.add i) = some (.string l[i]) := by
  obtain ⟨ad, c, e, hk, e0, _⟩ := h.get' hi (by decide)
  obtain rfl : c = _ := hk
  have := e0 _ rfl
  rw [show Ty.str.sz = 1 from rfl, Nat.mul_one] at this
  exact ⟨ad, e, this⟩
set_option maxHeartbeats 2000000 in
set_option maxRecDepth 100000 in
theorem ref_texts {w : World} {F G : Nat → Prop} {A C : Option Addr} {c d : Nat} {xs ys : List ByteArray} (h : Rd Ty.str w F A xs) (k : Rd Ty.str w G C ys) :
    Calls Tryd.prog 28 #[.slice A xs.length c, .slice C ys.length d] w fun e w' => e = .returned (.bool (decide (xs = ys))) ∧ Fr No w w' := by
  have hx := h.1
  have hy := k.1
  by_cases hl : xs.length = ys.length
  · have H := Lib.hid (And.intro h k)
    clear h k
    go_enter Tryd.func28, Tryd.ntmps28
    go_wp2_with fail
    go_loopw [5] (fun i wr => ∃ k : Nat, k ≤ xs.length ∧ i = .int .i64 (k : Int) ∧ Hid (xs.take k = ys.take k ∧ Fr No w wr)) (fun i _ => xs.length - (intOf i).toNat)
    case atStart => exact ⟨0, Nat.zero_le _, rfl, by simp, Fr.refl _ _⟩
    case round =>
      obtain ⟨k, hk, rfl, I⟩ := hrel
      obtain ⟨ht, hf⟩ := I.out
      clear I
      have hk0 : (0 : Int) ≤ (k : Int) := Int.natCast_nonneg _
      by_cases hlt : k < xs.length
      · obtain ⟨a1, rfl, x0⟩ := str_at (H.out.1.fr0 hf) hlt
        obtain ⟨a2, rfl, y0⟩ := str_at (H.out.2.fr0 hf) (i := k) (by omega)
        have hk1 : (k : Int) < (xs.length : Int) := by omega
        have hk2 : (k : Int) < (ys.length : Int) := by omega
        have hk3 : k < ys.length := by omega
        have hnext : xs.take (k + 1) = ys.take (k + 1) ↔ xs[k] = ys[k] := by
          rw [List.take_succ_eq_append_getElem (l := xs) hlt, List.take_succ_eq_append_getElem (l := ys) hk3, ht]
          constructor
          · intro e
            have := List.append_cancel_left e
            injection this
          · intro e
            rw [e]
        have hno : xs[k] ≠ ys[k] → xs ≠ ys := fun h e => by subst e; exact h rfl
        have HN := Lib.hid (And.intro hnext (And.intro hno hf))
        clear hnext hno ht hf
        by_cases he : xs[k] = ys[k]
        · rw [← he] at y0
          have HE := Lib.hid he
          clear he
          generalize xs[k] = u at *
          go_wp2
          go_quiet (fail)
          go_wp2
          go_roundw
          case rel => exact ⟨k + 1, by omega, by go_num, HN.out.1.2 HE.out, HN.out.2.2.drewN _⟩
          case measure => simp [intOf]; omega
        · have hne : (xs[k].toList == ys[k].toList) = false := by rw [beq_toList]; exact decide_eq_false he
          have HE := Lib.hid (HN.out.2.1 he)
          clear he
          generalize xs[k] = u at *
          generalize ys[k] = v at *
          go_wp2
          go_quiet (fail)
          go_wp2
          go_ret
          exact ⟨by rw [decide_eq_false HE.out]; rfl, HN.out.2.2.drewN _⟩
      · obtain rfl : k = xs.length := by omega
        have : xs = ys := by rw [List.take_length, hl, List.take_length] at ht; exact ht
        subst this
        have HF := Lib.hid hf
        clear ht hf
        go_wp2
        go_ret
        exact ⟨by simp, HF.out⟩
  · have hne : xs ≠ ys := fun e => hl (by rw [e])
    rw [decide_eq_false hne]
    have hl' : (xs.length : Int) ≠ (ys.length : Int) := fun e => hl (by omega)
    clear h k hne hl
    go_enter Tryd.func28, Tryd.ntmps28
    go_wp2
    go_ret
    exact ⟨rfl, Fr.refl _ _⟩
end Go.Proofs.YtlgmodeibmdcgaaDoor
