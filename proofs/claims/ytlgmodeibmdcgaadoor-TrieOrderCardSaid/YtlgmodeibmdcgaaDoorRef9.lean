/- Reference 9 (trie): lists of items: Del, Get, Keys, Put. -/
import Derived.Test.YtlgmodeibmdcgaaDoorRef4
set_option linter.unusedVariables false
set_option linter.unusedSimpArgs false
namespace Go.Proofs.YtlgmodeibmdcgaaDoor
open Go.RowKit

abbrev tItm : Ty Itm := Ty.pair Ty.str (Ty.slice Ty.u8)
theorem info_itm : (Tryd.prog.info? 32).map (fun i => (i.zero, i.size, i.bytes)) = some (some (.agg #[.string ⟨#[]⟩, .slice none 0 0]), 2, 40) := by kernel_rfl
theorem info_str : (Tryd.prog.info? 9).map (fun i => (i.zero, i.size, i.bytes)) = some (some (.string ⟨#[]⟩), 1, 16) := by kernel_rfl
/-- Items of one's own: all that they lead to is at B or behind; their own row at N or behind. -/
def Its (B N : Nat) (w : World) (v : Value) (m : List Itm) : Prop := Ow tItm 32 w (fun i => B ≤ i) v m ∧ ∀ k, v.ownBlock = some k → N ≤ k
abbrev RdI (B : Nat) (w : World) (A : Option Addr) (m : List Itm) : Prop := Rd tItm w (fun i => B ≤ i) A m
theorem Its.nil {B N : Nat} {w : World} : Its B N w (.slice none 0 0) [] := ⟨Ow.nil, fun k hk => by simp [Value.ownBlock] at hk⟩
theorem Its.fr {B N : Nat} {w w' : World} {v : Value} {m : List Itm} (h : Its B N w v m) (f : Fr No w w') : Its B N w' v m := ⟨h.1.fr0 f, h.2⟩
theorem Its.low {B N M : Nat} {w : World} {v : Value} {m : List Itm} (h : Its B N w v m) (k : M ≤ N) : Its B M w v m := ⟨h.1, fun i hi => Nat.le_trans k (h.2 i hi)⟩
/-- An item's cells. -/
theorem itm_at {B : Nat} {w : World} {A : Option Addr} {m : List Itm} (h : RdI B w A m) {i : Nat} (hi : i < m.length) :
    ∃ ad R c, A = some ad ∧ w.cell? (ad.add (i * 2)) = some (.string m[i].1) ∧ w.cell? ⟨(ad.add (i * 2)).block, (ad.add (i * 2)).off + 1, none⟩ = some (.slice R m[i].2.length c) ∧ m[i].2.length ≤ c ∧ Rd Ty.u8 w (fun j => B ≤ j) R m[i].2 := by
  obtain ⟨ad, cs, e, hk, h0, h1⟩ := h.get' hi (by decide)
  obtain ⟨c1, c2, rfl, k1, k2⟩ := hk
  obtain rfl : c1 = _ := k1
  obtain ⟨R, c, rfl, k3, k4⟩ := k2
  exact ⟨ad, R, c, e, h0 _ rfl, h1 1 _ (by decide) rfl, k3, k4⟩
/-- One item more. -/
theorem its_snoc {B N : Nat} {w W : World} {v : Value} {m : List Itm} {x : Itm} {R : Option Addr} {c : Nat} (h : Its B N w v m) (hm : m.length ≤ 1000000) (hx : Rd Ty.u8 w (fun i => B ≤ i ∧ v.ownBlock ≠ some i) R x.2) (hc : x.2.length ≤ c) (hB : B ≤ w.heap.size) (hN : N ≤ w.heap.size)
    (hW : W = w.alloc (.cells #[.string x.1, .slice R x.2.length c] 32)) :
    ∃ A1 c1 w1, (Builtin.append_ #[26, 26] 26 #[v, .slice (some ⟨w.heap.size, 0, none⟩) 1 1]).run Tryd.prog W = .ok (.slice A1 (m.length + 1) c1) w1 ∧ Its B N w1 (.slice A1 (m.length + 1) c1) (m ++ [x]) ∧ Fr (fun i => N ≤ i) w w1 := by
  have hfW : Fr No w W := by rw [hW]; exact (Fr.refl No w).alloc _
  have hsz : W.heap.size = w.heap.size + 1 := by rw [hW]; simp
  have hA : At W (some ⟨w.heap.size, 0, none⟩) [.string x.1, .slice R x.2.length c] := by rw [hW]; exact At.block (heap_alloc_new w _)
  have hrow : Row tItm W (fun i => B ≤ i ∧ v.ownBlock ≠ some i) [x] [.string x.1, .slice R x.2.length c] :=
    Row.single (t := tItm) ⟨[.string x.1], [.slice R x.2.length c], rfl, rfl, R, c, rfl, hc, hx.fr0 hfW⟩
  obtain ⟨A1, c1, w1, hrun, hO, hg, hat⟩ := run_ow_append (P := Tryd.prog) (ty := 26) (ty' := 26) tItm (h.1.fr0 hfW) (.agg #[.string ⟨#[]⟩, .slice none 0 0]) 40 Tryd.underlying26 info_itm rfl (by decide) (by decide) 1 (ys := [x]) hrow hA (by simp; omega)
  refine ⟨A1, c1, w1, hrun, ⟨hO.mono fun i hi _ => ?_, fun k hk => ?_⟩, ?_⟩
  · rcases hi with hi | hi <;> omega
  · rcases hat with h1 | h1
    · exact h.2 k (h1 ▸ hk)
    · have := h1.symm.trans hk; injection this with this; omega
  · exact (hfW.mono fun _ _ f => f.elim).grown hg fun k hk => .inl (h.2 k hk)
/-- A row that was there before is not the own one. -/
theorem rd_apart {B N : Nat} {w : World} {v : Value} {R : Option Addr} {p : Bs} (h : Rd Ty.u8 w (fun i => B ≤ i ∧ i < N) R p) (k : ∀ i, v.ownBlock = some i → N ≤ i) : Rd Ty.u8 w (fun i => B ≤ i ∧ v.ownBlock ≠ some i) R p :=
  h.mono fun i hi _ => ⟨hi.1, fun e => by have := k i e; omega⟩

def strneq (a b : ByteArray) : Bool := !(a.toList == b.toList)

set_option maxHeartbeats 2000000 in
set_option maxRecDepth 100000 in
theorem ref_del {B : Nat} {w : World} {A : Option Addr} {c : Nat} {m : List Itm} (key : ByteArray) (h : RdI B w A m) (hm : m.length ≤ 1000) (hB : B ≤ w.heap.size) :
    Calls Tryd.prog 34 #[.slice A m.length c, .string key] w fun e w' => ∃ A1 c1, e = .returned (.slice A1 (delL m key).length c1) ∧ Its B w.heap.size w' (.slice A1 (delL m key).length c1) (delL m key) ∧ Fr No w w' := by
  have hml : (m.length : Int) ≤ 1000 := by omega
  have hh : RdI B w A m ∧ Rd tItm w (fun i => B ≤ i ∧ i < w.heap.size) A m := ⟨h, h.mono fun i a b => ⟨a, b⟩⟩
  have H := Lib.hid (And.intro hh.1 (And.intro hh.2 (And.intro hm hB)))
  clear hh h hm hB
  go_enter Tryd.func34, Tryd.ntmps34
  go_wp2_with fail
  go_loopw [5, 6] (fun v i wr => ∃ (k n : Nat) (A1 : Option Addr) (c1 : Nat), k ≤ m.length ∧ i = .int .i64 (k : Int) ∧ v = .slice A1 n c1 ∧ Hid (n = (delL (m.take k) key).length ∧ Its B w.heap.size wr (.slice A1 n c1) (delL (m.take k) key) ∧ Fr (fun i => w.heap.size ≤ i) w wr)) (fun _ i _ => m.length - (intOf i).toNat)
  case atStart => exact ⟨0, 0, none, 0, Nat.zero_le _, rfl, rfl, rfl, Its.nil, Fr.refl _ _⟩
  case round =>
    obtain ⟨k, n, A1, c1, hk, rfl, rfl, I⟩ := hrel
    obtain ⟨hn, hI, hf⟩ := I.out
    clear I
    have hf' : Fr No w wr := ⟨hf.os, hf.tape, hf.output, hf.size, fun i hi _ => hf.block i hi (by omega)⟩
    have hk0 : (0 : Int) ≤ (k : Int) := Int.natCast_nonneg _
    by_cases hlt : k < m.length
    · have hk1 : (k : Int) < (m.length : Int) := by omega
      obtain ⟨ad, R, cx, rfl, x0, x1, hcx, hx⟩ := itm_at (H.out.1.fr0 hf') hlt
      have hx2 : Rd Ty.u8 wr (fun i => B ≤ i ∧ i < w.heap.size) R m[k].2 := by
        obtain ⟨ad', cs, e, hkk, _, h1⟩ := H.out.2.1.get' hlt (by decide)
        obtain ⟨d1, d2, rfl, k1, k2⟩ := hkk
        obtain rfl : d1 = _ := k1
        obtain ⟨R', c', rfl, k3, k4⟩ := k2
        obtain rfl : ad = ad' := by injection e
        have e2 := (hf'.cell (h1 1 _ (by decide) rfl) (fun f => f)).symm.trans x1
        simp at e2
        obtain ⟨rfl, rfl⟩ := e2
        exact k4.fr0 hf'
      have htake : delL (m.take (k + 1)) key = if m[k].1 = key then delL (m.take k) key else delL (m.take k) key ++ [m[k]] := by
        rw [List.take_succ_eq_append_getElem hlt]
        unfold delL
        rw [List.filter_append]
        by_cases e : m[k].1 = key <;> simp [e]
      have hdl : (delL (m.take k) key).length ≤ 1000 := Nat.le_trans (List.length_filter_le _ _) (by rw [List.length_take]; have := H.out.2.2.1; omega)
      by_cases hkk : m[k].1 = key
      · rw [if_pos hkk] at htake
        rw [hkk] at x0
        have HS := Lib.hid (And.intro hn (And.intro (htake ▸ hI) (And.intro hf htake)))
        clear hn hI hf hf' hx hx2 htake hcx x1 hdl hkk
        go_wp2_with fail
        go_roundw
        case rel => exact ⟨k + 1, n, A1, c1, by omega, by go_num, rfl, by rw [HS.out.2.2.2]; exact HS.out.1, HS.out.2.1, HS.out.2.2.1⟩
        case measure => simp [intOf]; omega
      · rw [if_neg hkk] at htake
        have hne : (m[k].1.toList == key.toList) = false := by rw [beq_toList]; exact decide_eq_false hkk
        obtain ⟨W, hW⟩ : ∃ W, W = wr.alloc (.cells #[.string m[k].1, .slice R m[k].2.length cx] 32) := ⟨_, rfl⟩
        rw [hn] at hI
        obtain ⟨A2, c2, w2, hrun, hI2, hf2⟩ := its_snoc hI (by omega) (rd_apart hx2 hI.2) hcx (Nat.le_trans H.out.2.2.2 hf.size) hf.size hW
        rw [← hn] at hrun hI2
        rw [← htake] at hI2
        have HS := Lib.hid (And.intro hn (And.intro hI2 (And.intro (hf.trans (hf2.mono fun i _ e => .inl e)) htake)))
        clear hn hI hI2 hf hf' hx hx2 htake hcx hdl hkk hf2
        obtain ⟨kx, hkx⟩ : ∃ kx, m[k].1 = kx := ⟨_, rfl⟩
        obtain ⟨lx, hlx⟩ : ∃ lx, m[k].2.length = lx := ⟨_, rfl⟩
        rw [hkx] at x0 hne hW
        rw [hlx] at x1 hW
        clear hkx hlx
        go_wp2_with (at_builtin; rw [← hW]; refine wpList_plain rfl fun K hK => wp_append_run _ _ _ _ rfl rfl rfl hrun (hK _ _ ?_))
        go_roundw
        case rel => exact ⟨k + 1, n + 1, A2, c2, by omega, by go_num, rfl, by rw [HS.out.2.2.2, List.length_append, ← HS.out.1]; rfl, HS.out.2.1, HS.out.2.2.1⟩
        case measure => simp [intOf]; omega
    · obtain rfl : k = m.length := by omega
      rw [List.take_length] at hn hI
      have HS := Lib.hid (And.intro hI hf')
      subst hn
      clear hI hf hf'
      go_wp2_with fail
      go_ret
      exact ⟨A1, c1, rfl, HS.out.1, HS.out.2⟩
end Go.Proofs.YtlgmodeibmdcgaaDoor
