/- Texts of this claim, one behind the other: TRight, Chain3, Chain4. -/
import Derived.Test.YtlmhphejgahfbaaGreatDoorMrowledgerdeletes6
import Derived.Test.YtlmhphejgahfbaaGreatDoorMrowledgerdeletes3
import Derived.Carry
import Derived.Test.YtlmhphejgahfbaaGreatDoorMrowledgerdeletes2
import Derived.Deep.RegionLaw
import Derived.BigRegion
/- table.Right of the one table of Tables(nil). -/
set_option linter.unusedVariables false
set_option linter.unusedSimpArgs false
namespace Go.Proofs.YtlmhphejgahfbaaGreatDoor
open Go.RowKit

set_option maxHeartbeats 400000 in
set_option maxRecDepth 100000 in
theorem named_ok {w : World} (s : ByteArray) (h1 : 1 ≤ s.size) (h2 : s.size ≤ 20) : Calls Tryz.prog 156 #[.string s] w fun e w' => e = .returned (.bool true) ∧ w' = w := by
  have h1' : (1 : Int) ≤ (s.size : Int) := by omega
  have h2' : (s.size : Int) ≤ 20 := by omega
  go_enter Tryz.func156, Tryz.ntmps156
  go_wp2_with fail
  go_ret
  exact ⟨rfl, rfl⟩
set_option maxHeartbeats 400000 in
set_option maxRecDepth 100000 in
theorem name_tab {w : World} (s : ByteArray) (a : Option Addr) (n c : Nat) (k : Int) : Calls Tryz.prog 86 #[.agg #[.string s, .slice a n c, .int .i64 k]] w fun e w' => e = .returned (.string s) ∧ Fr No w w' := by
  have hw := Lib.hid (Fr.refl No w)
  go_enter Tryz.func86, Tryz.ntmps86
  go_wp2_with fail
  go_ret
  exact ⟨rfl, hw.out.alloc _⟩
set_option maxHeartbeats 400000 in
set_option maxRecDepth 100000 in
theorem name_col {w : World} (s : ByteArray) (k : Int) (b : Bool) : Calls Tryz.prog 158 #[.agg #[.string s, .int .u8 k, .bool b]] w fun e w' => e = .returned (.string s) ∧ Fr No w w' := by
  have hw := Lib.hid (Fr.refl No w)
  go_enter Tryz.func158, Tryz.ntmps158
  go_wp2_with fail
  go_ret
  exact ⟨rfl, hw.out.alloc _⟩
theorem tab_at {w : World} {F : Nat → Prop} {A : Option Addr} {l : List Tab} (h : Rd tTab w F A l) {i : Nat} (hi : i < l.length) :
    ∃ ad R c, A = some ad ∧ w.cell? (ad.add (i * 3)) = some (.string l[i].1) ∧ w.cell? ⟨(ad.add (i * 3)).block, (ad.add (i * 3)).off + 1, none⟩ = some (.slice R l[i].2.1.length c) ∧ w.cell? ⟨(ad.add (i * 3)).block, (ad.add (i * 3)).off + 2, none⟩ = some (.int .i64 l[i].2.2) ∧ l[i].2.1.length ≤ c ∧ Rd tCol w F R l[i].2.1 := by
  obtain ⟨ad, cs, e, hk, h0, h1⟩ := h.get' hi (by decide)
  obtain ⟨c1, c2, rfl, k1, k2⟩ := hk
  obtain rfl : c1 = _ := k1
  obtain ⟨c3, c4, rfl, k3, k4⟩ := k2
  obtain ⟨R, c, rfl, k5, k6⟩ := k3
  obtain rfl : c4 = _ := k4
  exact ⟨ad, R, c, e, h0 _ rfl, h1 1 _ (by decide) rfl, h1 2 _ (by decide) rfl, k5, k6⟩
theorem col_at {w : World} {F : Nat → Prop} {A : Option Addr} {l : List Col} (h : Rd tCol w F A l) {i : Nat} (hi : i < l.length) :
    ∃ ad, A = some ad ∧ w.cell? (ad.add (i * 3)) = some (.string l[i].1) ∧ w.cell? ⟨(ad.add (i * 3)).block, (ad.add (i * 3)).off + 1, none⟩ = some (.int .u8 (l[i].2.1.toNat : Int)) ∧ w.cell? ⟨(ad.add (i * 3)).block, (ad.add (i * 3)).off + 2, none⟩ = some (.bool l[i].2.2) := by
  obtain ⟨ad, cs, e, hk, h0, h1⟩ := h.get' hi (by decide)
  obtain ⟨c1, c2, rfl, k1, k2⟩ := hk
  obtain rfl : c1 = _ := k1
  obtain ⟨c3, c4, rfl, k3, k4⟩ := k2
  obtain rfl : c3 = _ := k3
  obtain rfl : c4 = _ := k4
  exact ⟨ad, e, h0 _ rfl, h1 1 _ (by decide) rfl, h1 2 _ (by decide) rfl⟩

theorem zero_bool (w : World) : (zeroValue 4).run Tryz.prog w = .ok (.bool false) w := by kernel_rfl
/-- The names so far, each true. -/
def namesM (l : List ByteArray) : List (ByteArray × Value) := l.map fun s => (s, .bool true)
theorem look_names {l : List ByteArray} {s : ByteArray} (h : s ∉ l) : look s (namesM l) = none := by
  rw [look_none_iff]; unfold namesM; rw [List.map_map]; simpa using h
theorem lay_names {l : List ByteArray} {s : ByteArray} (h : s ∉ l) : lay s (.bool true) (namesM l) = namesM (l ++ [s]) := by
  rw [lay_new (look_names h)]; unfold namesM; rw [List.map_append]; rfl

set_option maxHeartbeats 1000000 in
set_option maxRecDepth 100000 in
theorem unlike_tabs {w : World} {F : Nat → Prop} {A : Option Addr} {c : Nat} {l : List Tab} (h : Rd tTab w F A l) (hn : ∀ t ∈ l, 1 ≤ t.1.size ∧ t.1.size ≤ 20) (hd : (l.map (·.1)).Nodup) : Calls Tryz.prog 85 #[.slice A l.length c, .func (.func 86) #[] #[]] w fun e w' => e = .returned (.bool true) ∧ Fr No w w' := by
  have H := Lib.hid (And.intro h (And.intro hn hd))
  have hmm := @run_makeMap Tryz.prog
  have HC := Lib.hid fun (w : World) => name_tab (w := w)
  have HN := Lib.hid fun (w : World) (s : ByteArray) => named_ok (w := w) s
  have hl63 := h.1
  have hl63i : (l.length : Int) ≤ 9223372036854775807 := by omega
  clear h hn hd hl63
  go_enter Tryz.func85, Tryz.ntmps85
  go_wp2_with fail
  go_loopw [12] (fun iv wr => ∃ k : Nat, k ≤ l.length ∧ iv = .int .i64 (k : Int) ∧ Hid (MapIs wr w.heap.size (namesM ((l.take k).map (·.1))) ∧ Fr No w wr)) (fun iv _ => l.length - (intOf iv).toNat)
  case atStart => exact ⟨0, Nat.zero_le _, rfl, by rw [List.take_zero]; exact MapIs.new w, (Fr.refl No w).alloc _⟩
  case round =>
    obtain ⟨k, hk, rfl, I⟩ := hrel
    have hk0 : (0 : Int) ≤ (k : Int) := Int.natCast_nonneg _
    by_cases hlt : k < l.length
    · have hk1 : (k : Int) < (l.length : Int) := by omega
      obtain ⟨ad, R, c1, rfl, x0, x1, x2, _, _⟩ := tab_at (H.out.1.fr0 I.out.2) hlt
      obtain ⟨n1, n2⟩ := H.out.2.1 l[k] (List.getElem_mem hlt)
      have hnot : l[k].1 ∉ (l.take k).map (·.1) := by
        intro hm
        obtain ⟨t, ht, e⟩ := List.mem_map.1 hm
        obtain ⟨j, hj, rfl⟩ := List.mem_take_iff_getElem.1 ht
        have := (List.pairwise_iff_getElem.1 H.out.2.2) j k (by simp; omega) (by simpa using hlt) (by omega)
        simp at this
        exact this e
      have hsucc : (l.take (k + 1)).map (·.1) = (l.take k).map (·.1) ++ [l[k].1] := by
        rw [List.take_succ_eq_append_getElem hlt, List.map_append]; rfl
      obtain ⟨s, hs⟩ : ∃ s, l[k].1 = s := ⟨_, rfl⟩
      obtain ⟨nl, hnl⟩ : ∃ nl, l[k].2.1.length = nl := ⟨_, rfl⟩
      obtain ⟨kk, hkk⟩ : ∃ kk, l[k].2.2 = kk := ⟨_, rfl⟩
      rw [hs] at x0 n1 n2 hnot hsucc
      rw [hnl] at x1
      rw [hkk] at x2
      have HS := Lib.hid (And.intro hnot (And.intro hsucc (And.intro n1 n2)))
      clear hnot hsucc n1 n2 hs hnl hkk
      go_wp2_with fail
      refine (HC.out _ s R nl c1 kk).mono ?_
      rintro e w3 ⟨rfl, hf3⟩
      have hfr3 : Fr No wr w3 := ((Fr.refl No wr).alloc _).next hf3 (fun _ _ f => f.elim)
      have hm3 : MapIs w3 w.heap.size (namesM ((l.take k).map (·.1))) := I.out.1.stab (hfr3.block _ I.out.1.lt (fun f => f))
      have hlook := (run_map_look hm3 139 9 4 Tryz.underlying139 Tryz.underlying9 (.bool false) (zero_bool w3) s).1
      rw [look_names HS.out.1] at hlook
      simp only [Option.getD_none] at hlook
      obtain ⟨w4, hlay, hm4, hf4⟩ := run_map_lay (P := Tryz.prog) hm3 139 9 4 Tryz.underlying139 Tryz.underlying9 s (.bool true)
      rw [lay_names HS.out.1, ← HS.out.2.1] at hm4
      have HZ := Lib.hid (And.intro hm4 ((I.out.2.next hfr3 (fun _ _ f => f.elim)).next hf4 (fun i hi e => by omega)))
      clear hf3 hfr3 hm3 hm4 hf4
      go_wp2_with fail
      refine (HN.out _ s HS.out.2.2.1 HS.out.2.2.2).mono ?_
      rintro e w5 ⟨rfl, rfl⟩
      go_wp2_with fail
      go_roundw
      case rel => exact ⟨k + 1, by omega, by go_num, HZ.out.1, HZ.out.2⟩
      case measure => simp [intOf]; omega
    · obtain rfl : k = l.length := by omega
      go_wp2_with fail
      go_ret
      exact ⟨rfl, I.out.2⟩
set_option maxHeartbeats 1000000 in
set_option maxRecDepth 100000 in
theorem unlike_cols {w : World} {F : Nat → Prop} {A : Option Addr} {c : Nat} {l : List Col} (h : Rd tCol w F A l) (hn : ∀ t ∈ l, 1 ≤ t.1.size ∧ t.1.size ≤ 20) (hd : (l.map (·.1)).Nodup) : Calls Tryz.prog 157 #[.slice A l.length c, .func (.func 158) #[] #[]] w fun e w' => e = .returned (.bool true) ∧ Fr No w w' := by
  have H := Lib.hid (And.intro h (And.intro hn hd))
  have hmm := @run_makeMap Tryz.prog
  have HC := Lib.hid fun (w : World) => name_col (w := w)
  have HN := Lib.hid fun (w : World) (s : ByteArray) => named_ok (w := w) s
  have hl63 := h.1
  have hl63i : (l.length : Int) ≤ 9223372036854775807 := by omega
  clear h hn hd hl63
  go_enter Tryz.func157, Tryz.ntmps157
  go_wp2_with fail
  go_loopw [12] (fun iv wr => ∃ k : Nat, k ≤ l.length ∧ iv = .int .i64 (k : Int) ∧ Hid (MapIs wr w.heap.size (namesM ((l.take k).map (·.1))) ∧ Fr No w wr)) (fun iv _ => l.length - (intOf iv).toNat)
  case atStart => exact ⟨0, Nat.zero_le _, rfl, by rw [List.take_zero]; exact MapIs.new w, (Fr.refl No w).alloc _⟩
  case round =>
    obtain ⟨k, hk, rfl, I⟩ := hrel
    have hk0 : (0 : Int) ≤ (k : Int) := Int.natCast_nonneg _
    by_cases hlt : k < l.length
    · have hk1 : (k : Int) < (l.length : Int) := by omega
      obtain ⟨ad, rfl, x0, x1, x2⟩ := col_at (H.out.1.fr0 I.out.2) hlt
      obtain ⟨n1, n2⟩ := H.out.2.1 l[k] (List.getElem_mem hlt)
      have hnot : l[k].1 ∉ (l.take k).map (·.1) := by
        intro hm
        obtain ⟨t, ht, e⟩ := List.mem_map.1 hm
        obtain ⟨j, hj, rfl⟩ := List.mem_take_iff_getElem.1 ht
        have := (List.pairwise_iff_getElem.1 H.out.2.2) j k (by simp; omega) (by simpa using hlt) (by omega)
        simp at this
        exact this e
      have hsucc : (l.take (k + 1)).map (·.1) = (l.take k).map (·.1) ++ [l[k].1] := by
        rw [List.take_succ_eq_append_getElem hlt, List.map_append]; rfl
      obtain ⟨s, hs⟩ : ∃ s, l[k].1 = s := ⟨_, rfl⟩
      obtain ⟨nl, hnl⟩ : ∃ nl, (l[k].2.1.toNat : Int) = nl := ⟨_, rfl⟩
      obtain ⟨kk, hkk⟩ : ∃ kk, l[k].2.2 = kk := ⟨_, rfl⟩
      rw [hs] at x0 n1 n2 hnot hsucc
      rw [hnl] at x1
      rw [hkk] at x2
      have HS := Lib.hid (And.intro hnot (And.intro hsucc (And.intro n1 n2)))
      clear hnot hsucc n1 n2 hs hnl hkk
      go_wp2_with fail
      refine (HC.out _ s nl kk).mono ?_
      rintro e w3 ⟨rfl, hf3⟩
      have hfr3 : Fr No wr w3 := ((Fr.refl No wr).alloc _).next hf3 (fun _ _ f => f.elim)
      have hm3 : MapIs w3 w.heap.size (namesM ((l.take k).map (·.1))) := I.out.1.stab (hfr3.block _ I.out.1.lt (fun f => f))
      have hlook := (run_map_look hm3 139 9 4 Tryz.underlying139 Tryz.underlying9 (.bool false) (zero_bool w3) s).1
      rw [look_names HS.out.1] at hlook
      simp only [Option.getD_none] at hlook
      obtain ⟨w4, hlay, hm4, hf4⟩ := run_map_lay (P := Tryz.prog) hm3 139 9 4 Tryz.underlying139 Tryz.underlying9 s (.bool true)
      rw [lay_names HS.out.1, ← HS.out.2.1] at hm4
      have HZ := Lib.hid (And.intro hm4 ((I.out.2.next hfr3 (fun _ _ f => f.elim)).next hf4 (fun i hi e => by omega)))
      clear hf3 hfr3 hm3 hm4 hf4
      go_wp2_with fail
      refine (HN.out _ s HS.out.2.2.1 HS.out.2.2.2).mono ?_
      rintro e w5 ⟨rfl, rfl⟩
      go_wp2_with fail
      go_roundw
      case rel => exact ⟨k + 1, by omega, by go_num, HZ.out.1, HZ.out.2⟩
      case measure => simp [intOf]; omega
    · obtain rfl : k = l.length := by omega
      go_wp2_with fail
      go_ret
      exact ⟨rfl, I.out.2⟩

/-- A table that may be. -/
structure TabOk (t : Tab) : Prop where
  some : 1 ≤ t.2.1.length
  most : t.2.1.length ≤ 8
  keys : 1 ≤ t.2.2
  fit : t.2.2 ≤ (t.2.1.length : Int)
  kind : ∀ i (h : i < t.2.1.length), t.2.1[i].2.1 = 1 ∨ t.2.1[i].2.1 = 2
  null : ∀ i (h : i < t.2.1.length), t.2.1[i].2.2 = true → t.2.2 ≤ (i : Int)
  names : ∀ c ∈ t.2.1, 1 ≤ c.1.size ∧ c.1.size ≤ 20
  once : (t.2.1.map (·.1)).Nodup

set_option maxHeartbeats 2000000 in
set_option maxRecDepth 100000 in
theorem columns_ok {w : World} {F : Nat → Prop} {R : Option Addr} {c : Nat} {t : Tab} (h : Rd tCol w F R t.2.1) (g : TabOk t) : Calls Tryz.prog 87 #[.agg #[.string t.1, .slice R t.2.1.length c, .int .i64 t.2.2]] w fun e w' => e = .returned (.bool true) ∧ Fr No w w' := by
  have hl8 : (t.2.1.length : Int) ≤ 8 := by have := g.most; omega
  have hU := fun (w1 : World) (f : Fr No w w1) => unlike_cols (c := c) (h.fr0 f) g.names g.once
  obtain ⟨s, cs, kk⟩ := t
  have H := Lib.hid (And.intro h (And.intro g hU))
  have hw := Lib.hid (Fr.refl No w)
  clear h g hU
  go_enter Tryz.func87, Tryz.ntmps87
  go_wp2_with fail
  obtain ⟨W, hW⟩ : ∃ W, W = w.alloc (.cells #[.string s, .slice R cs.length c, .int .i64 kk] 54) := ⟨_, rfl⟩
  have hfW : Fr No w W := by rw [hW]; exact hw.out.alloc _
  have hbW : W.heap[w.heap.size]? = some (.cells #[.string s, .slice R cs.length c, .int .i64 kk] 54) := by rw [hW]; exact heap_alloc_new _ _
  rw [← hW]
  have HW := Lib.hid (And.intro hfW hbW)
  clear hW hfW hbW
  go_loopw [8] (fun iv wr => ∃ k : Nat, k ≤ cs.length ∧ iv = .int .i64 (k : Int) ∧ Hid (Fr No W wr)) (fun iv _ => cs.length - (intOf iv).toNat)
  case atStart => exact ⟨0, Nat.zero_le _, rfl, Fr.refl _ _⟩
  case round =>
    obtain ⟨k, hk, rfl, I⟩ := hrel
    have hk0 : (0 : Int) ≤ (k : Int) := Int.natCast_nonneg _
    have hb := I.out.blk HW.out.2 (fun f => f)
    have b0 := blk_cell hb 0
    have b1 := blk_cell hb 1
    have b2 := blk_cell hb 2
    simp at b0 b1 b2
    have hfw := HW.out.1.next I.out (fun _ _ f => f.elim)
    by_cases hlt : k < cs.length
    · have hk1 : (k : Int) < (cs.length : Int) := by omega
      obtain ⟨ad, rfl, x0, x1, x2⟩ := col_at (H.out.1.fr0 hfw) hlt
      have hkind := H.out.2.1.kind k hlt
      have hnull := H.out.2.1.null k hlt
      simp only [] at hkind hnull
      have hg0 := Fr.refl No wr
      obtain ⟨sn, hsn⟩ : ∃ sn, cs[k].1 = sn := ⟨_, rfl⟩
      obtain ⟨nb, hnb⟩ : ∃ nb, cs[k].2.2 = nb := ⟨_, rfl⟩
      rw [hsn] at x0
      rw [hnb] at x2 hnull
      have HI := Lib.hid (And.intro I.out hg0)
      rcases hkind with e | e
      · rw [e] at x1
        change _ = some (Value.int IntKind.u8 1) at x1
        cases nb with
        | false =>
          clear hnull e hsn hnb hb hfw I
          go_wp2_with fail
          go_roundw
          case rel => exact ⟨k + 1, by omega, by go_num, HI.out.1.alloc _⟩
          case measure => simp [intOf]; omega
        | true =>
          have hkk : kk ≤ (k : Int) := hnull rfl
          have hkk2 : ¬ (k : Int) < kk := by omega
          have b2a := fun o => cell_alloc b2 o
          clear hnull e hsn hnb hb hfw I
          go_wp2_with fail
          go_roundw
          case rel => exact ⟨k + 1, by omega, by go_num, HI.out.1.alloc _⟩
          case measure => simp [intOf]; omega
      · rw [e] at x1
        change _ = some (Value.int IntKind.u8 2) at x1
        cases nb with
        | false =>
          clear hnull e hsn hnb hb hfw I
          go_wp2_with fail
          go_roundw
          case rel => exact ⟨k + 1, by omega, by go_num, HI.out.1.alloc _⟩
          case measure => simp [intOf]; omega
        | true =>
          have hkk : kk ≤ (k : Int) := hnull rfl
          have hkk2 : ¬ (k : Int) < kk := by omega
          have b2a := fun o => cell_alloc b2 o
          clear hnull e hsn hnb hb hfw I
          go_wp2_with fail
          go_roundw
          case rel => exact ⟨k + 1, by omega, by go_num, HI.out.1.alloc _⟩
          case measure => simp [intOf]; omega
    · obtain rfl : k = cs.length := by omega
      have HF := Lib.hid hfw
      clear hfw hb
      go_wp2_with fail
      refine (H.out.2.2 _ HF.out).mono ?_
      rintro e w3 ⟨rfl, hf3⟩
      have H3 := Lib.hid (HF.out.next hf3 (fun _ _ f => f.elim))
      clear hf3
      go_wp2_with fail
      go_ret
      exact ⟨rfl, H3.out⟩

/-- Tables that may be. -/
structure TabsOk (l : List Tab) : Prop where
  some : 1 ≤ l.length
  most : l.length ≤ 4
  each : ∀ t ∈ l, TabOk t
  names : ∀ t ∈ l, 1 ≤ t.1.size ∧ t.1.size ≤ 20
  once : (l.map (·.1)).Nodup

set_option maxHeartbeats 2000000 in
set_option maxRecDepth 100000 in
theorem tright_ok {w : World} {F : Nat → Prop} {A : Option Addr} {c : Nat} {l : List Tab} (h : Rd tTab w F A l) (g : TabsOk l) : Calls Tryz.prog 37 #[.slice A l.length c] w fun e w' => e = .returned (.bool true) ∧ Fr No w w' := by
  have hl1 : (1 : Int) ≤ (l.length : Int) := by have := g.some; omega
  have hl4 : (l.length : Int) ≤ 4 := by have := g.most; omega
  have hU := unlike_tabs (c := c) h g.names g.once
  have H := Lib.hid (And.intro h (And.intro g hU))
  clear h g hU
  go_enter Tryz.func37, Tryz.ntmps37
  go_wp2_with fail
  refine H.out.2.2.mono ?_
  rintro e w1 ⟨rfl, hf1⟩
  have H1 := Lib.hid hf1
  clear hf1
  go_wp2_with fail
  go_loopw [21] (fun iv wr => ∃ k : Nat, k ≤ l.length ∧ iv = .int .i64 (k : Int) ∧ Hid (Fr No w wr)) (fun iv _ => l.length - (intOf iv).toNat)
  case atStart => exact ⟨0, Nat.zero_le _, rfl, H1.out⟩
  case round =>
    obtain ⟨k, hk, rfl, I⟩ := hrel
    have hk0 : (0 : Int) ≤ (k : Int) := Int.natCast_nonneg _
    by_cases hlt : k < l.length
    · have hk1 : (k : Int) < (l.length : Int) := by omega
      obtain ⟨ad, R, c1, rfl, x0, x1, x2, _, hR⟩ := tab_at (H.out.1.fr0 I.out) hlt
      have g := H.out.2.1.each l[k] (List.getElem_mem hlt)
      obtain ⟨t, ht⟩ : ∃ t, l[k] = t := ⟨_, rfl⟩
      rw [ht] at x0 x1 x2 hR g
      have hcl := fun (w1 : World) (f : Fr No wr w1) => columns_ok (c := c1) (hR.fr0 f) g
      obtain ⟨sn, cs, kk⟩ := t
      have n1 : (1 : Int) ≤ (cs.length : Int) := Int.ofNat_le.2 g.some
      have n8 : (cs.length : Int) ≤ 8 := Int.ofNat_le.2 g.most
      have k1 : (1 : Int) ≤ kk := g.keys
      have k2 : kk ≤ (cs.length : Int) := g.fit
      have HS := Lib.hid (And.intro hcl I.out)
      have g0 := Lib.hid (Fr.refl No wr)
      change wr.cell? (ad.add (k * 3)) = some (.string sn) at x0
      change wr.cell? _ = some (.slice R cs.length c1) at x1
      change wr.cell? _ = some (.int .i64 kk) at x2
      clear hcl g hR ht I
      go_wp2_with fail
      refine (HS.out.1 _ (g0.out.alloc _)).mono ?_
      rintro e w3 ⟨rfl, hf3⟩
      have H3 := Lib.hid (HS.out.2.next ((g0.out.alloc _).next hf3 (fun _ _ f => f.elim)) (fun _ _ f => f.elim))
      clear hf3
      go_wp2_with fail
      go_roundw
      case rel => exact ⟨k + 1, by omega, by go_num, H3.out⟩
      case measure => simp [intOf]; omega
    · obtain rfl : k = l.length := by omega
      go_wp2_with fail
      go_ret
      exact ⟨rfl, I.out⟩
theorem tab0_ok : TabsOk [tab0] where
  some := by decide
  most := by decide
  each := by
    intro t ht
    obtain rfl : t = tab0 := by simpa using ht
    exact {
      some := by decide
      most := by decide
      keys := by decide
      fit := by decide
      kind := fun i h => by
        obtain rfl : i = 0 := by simp [tab0] at h; exact h
        exact .inl rfl
      null := fun i h e => by
        obtain rfl : i = 0 := by simp [tab0] at h; exact h
        cases e
      names := fun c hc => by
        obtain rfl : c = (one 97, 1, false) := by simpa [tab0] using hc
        exact ⟨by decide, by decide⟩
      once := by simp [tab0] }
  names := by
    intro t ht
    obtain rfl : t = tab0 := by simpa using ht
    decide
  once := by simp
end Go.Proofs.YtlmhphejgahfbaaGreatDoor
/- Layer 12 (chain), second part: Get, Put, Trim. -/
set_option linter.unusedVariables false
set_option linter.unusedSimpArgs false
namespace Go.Proofs.YtlmhphejgahfbaaGreatDoor
open Go.RowKit

theorem chain_seen_nil (a : Int) (w : World) : Calls Tryz.prog 202 #[.pointer none, .int .i64 a] w fun e w' => e = .returned (.int .i64 (-1)) ∧ Fr No w w' := by
  have H : ∀ m, Fr No w (((w.alloc (.cells #[.pointer none] 224)).alloc (.cells #[.int .i64 a] 2)).drewN m) := fun m => (((Fr.refl No w).alloc _).alloc _).drewN m
  have hs := search_ok 233 #[.pointer (some ⟨w.heap.size, 0, none⟩), .pointer (some ⟨w.heap.size + 1, 0, none⟩)] (fun i => true) 0 0
    ((w.alloc (.cells #[.pointer none] 224)).alloc (.cells #[.int .i64 a] 2)) (by omega) (by omega) (fun i hi => by omega) (fun i hi hi' => by omega) Tryz.call233 (fun i m hi => by omega)
  have HS := Lib.hid hs
  clear hs
  go_enter Tryz.func202, Tryz.ntmps202
  go_wp2_with (first
    | (go_at_call 153; refine (chain_len_nil _).mono ?_; rintro e w' ⟨rfl, rfl⟩)
    | (go_at_call 232; refine HS.out.mono ?_; rintro e w' ⟨rfl, m, rfl⟩))
  go_ret
  exact ⟨rfl, H m⟩

/-- A row, or none, as two results. -/
def RowOk (w w' : World) (e : Ending) (r : Option Bs) : Prop :=
  ∃ A1 c1, e = .returned (.tuple #[.slice A1 (r.getD []).length c1, .bool r.isSome]) ∧ Ow Ty.u8 5 w' (fun k => w.heap.size ≤ k) (.slice A1 (r.getD []).length c1) (r.getD [])

theorem chain_get_nil (a : Int) (w : World) : Calls Tryz.prog 173 #[.pointer none, .int .i64 a] w fun e w' => RowOk w w' e none ∧ Fr No w w' := by
  go_enter Tryz.func173, Tryz.ntmps173
  go_wp2_with (go_at_call 202; refine (chain_seen_nil _ _).mono ?_; rintro e w' ⟨rfl, hf⟩)
  go_ret2
  exact ⟨⟨none, 0, rfl, Ow.nil⟩, hf⟩

theorem chain_get {w : World} {F : Nat → Prop} {b : Nat} {c : Chn} {a : Int} (h : ChainAt w F b c) (hl : c.l.length ≤ 1000000000) (hr : ∀ v ∈ c.l, v.row.length ≤ 1000000000) :
    Calls Tryz.prog 173 #[.pointer (some ⟨b, 0, none⟩), .int .i64 a] w fun e w' => RowOk w w' e (c.get a) ∧ Fr No w w' := by
  have hle := seen_le c a
  have hs := chain_seen (a := a) h hl
  obtain ⟨hf, ho, v, hb, hw⟩ := h
  obtain ⟨A, cp, rfl, hcp, hrd⟩ := hw.slice
  have c0 := blk_cell hb 0
  have lb := blk_lt hb
  simp at c0
  by_cases h0 : c.seen a = 0
  · have hg : c.get a = none := by unfold Chn.get; split <;> simp [h0]
    rw [hg]
    rw [h0] at hs
    have HS := Lib.hid hs
    clear hs c0 hw hb ho hrd hle h0 hg hr
    go_enter Tryz.func173, Tryz.ntmps173
    go_wp2_with (go_at_call 202; refine HS.out.mono ?_; rintro e w' ⟨rfl, hf⟩)
    go_ret2
    exact ⟨⟨none, 0, rfl, Ow.nil⟩, hf⟩
  · have hi : c.seen a - 1 < c.l.length := by omega
    obtain ⟨i, hie⟩ : ∃ i, c.seen a = i + 1 := ⟨c.seen a - 1, by omega⟩
    have hi : i < c.l.length := by omega
    have hget : c.get a = if c.l[i].gone then none else some c.l[i].row := by
      unfold Chn.get
      rw [hie]
      simp [hi]
    rw [hget]
    rw [hie] at hs
    have hrow : c.l[i].row.length ≤ 1000000000 := hr _ (List.getElem_mem hi)
    have HS := Lib.hid hs
    have HR := Lib.hid hrd
    have hi0 : (0 : Int) ≤ (i : Int) := Int.natCast_nonneg _
    have hi1 : (i : Int) < (c.l.length : Int) := by omega
    clear hs hw hb ho hle h0 hr hrd hie hget
    have H1 : ∀ w1, Fr No w w1 → ∃ ad A' c', A = some ad ∧ w1.cell? (ad.add (i * 3)) = some (.int .i64 c.l[i].at_) ∧ w1.cell? ⟨(ad.add (i * 3)).block, (ad.add (i * 3)).off + 1, none⟩ = some (.slice A' c.l[i].row.length c') ∧
        w1.cell? ⟨(ad.add (i * 3)).block, (ad.add (i * 3)).off + 2, none⟩ = some (.bool c.l[i].gone) ∧ Rd Ty.u8 w1 (fun k => F k ∧ k ≠ b) A' c.l[i].row ∧ w1.cell? ⟨b, 0, none⟩ = some (.slice A c.l.length cp) := by
      intro w1 f
      obtain ⟨ad, cs, e, hk, e0, e1⟩ := (HR.out.fr0 f).get' hi (by decide)
      obtain ⟨A', c', rfl, _, hq⟩ := tVer_open hk
      exact ⟨ad, A', c', e, e0 _ rfl, e1 1 _ (by decide) rfl, e1 2 _ (by decide) rfl, hq, (f.to_below.cell (p := ⟨b, 0, none⟩) lb).trans c0⟩
    have H1 := Lib.hid H1
    generalize c.l[i].gone = g at *
    generalize c.l[i].row = row at *
    generalize c.l[i].at_ = y at *
    generalize c.l.length = n at *
    cases g
    · go_enter Tryz.func173, Tryz.ntmps173
      go_wp2_with (first
        | (go_at_call 202; refine HS.out.mono ?_; rintro e w1 ⟨rfl, hf1⟩; obtain ⟨ad, A', c', rfl, x0, x1, x2, hq, xb⟩ := H1.out w1 hf1)
        | (go_simp; go_at_call 100; refine (clone_ok hq rfl (by omega)).mono ?_; rintro e w2 ⟨A1, c1, rfl, ho2, hf2⟩))
      go_ret2
      exact ⟨⟨A1, c1, rfl, ho2.mono fun k hk _ => by have := hf1.size; omega⟩, hf1.trans (hf2.mono fun _ _ f => f.elim)⟩
    · go_enter Tryz.func173, Tryz.ntmps173
      go_wp2_with (go_at_call 202; refine HS.out.mono ?_; rintro e w1 ⟨rfl, hf1⟩; obtain ⟨ad, A', c', rfl, x0, x1, x2, hq, xb⟩ := H1.out w1 hf1)
      go_ret2
      exact ⟨⟨none, 0, rfl, Ow.nil⟩, hf1⟩

theorem Ow.set {α : Type} {t : Ty α} {e : TypeId} {w : World} {F : Nat → Prop} {v : Value} {xs : List α} (h : Ow t e w F v xs) (p : Addr) (hp : ¬ F p.block) (u : Value) : Ow t e (w.setCell p u) F v xs :=
  h.stab fun k hk _ => Below.heap_setCell _ _ _ _ (by rintro rfl; exact hp hk)
theorem Chn.ok_put {c : Chn} (h : c.Ok) {a : Int} (ha : c.last < a) (row : Bs) (gone : Bool) : (c.put a row gone).Ok := by
  refine ⟨List.pairwise_append.2 ⟨h.1, List.pairwise_singleton _ _, fun x hx y hy => ?_⟩, fun v hv => ?_⟩
  · have := h.2 x hx
    obtain rfl : y = _ := by simpa using hy
    show x.at_ < a
    omega
  · rcases List.mem_append.1 hv with hv | hv
    · have := h.2 v hv
      show v.at_ ≤ a
      omega
    · obtain rfl : v = _ := by simpa using hv
      exact Int.le_refl _

theorem chain_shut {w w3 : World} {F : Nat → Prop} {b : Nat} {c : Chn} {v v3 : Value} {a0 : Int} (hf : F b) (lb : b < w.heap.size) (ho : c.Ok) (hb : w3.heap[b]? = some (.cells #[v, .int .i64 a0] 280 (0, 0)))
    (hw : Ow tVer 282 w3 (fun k => (F k ∧ k ≠ b) ∨ w.heap.size ≤ k) v3 c.l) (hW : Fr F w w3) :
    ChainAt ((w3.setCell ⟨b, 0, none⟩ v3).setCell ⟨b, 1, none⟩ (.int .i64 c.last)) (fun k => F k ∨ w.heap.size ≤ k) b c ∧ Fr F w ((w3.setCell ⟨b, 0, none⟩ v3).setCell ⟨b, 1, none⟩ (.int .i64 c.last)) := by
  refine ⟨⟨.inl hf, ho, v3, by simpa using blk_set (blk_set hb 0 v3) 1 (.int .i64 c.last), ?_⟩, (hW.set _ (.inl hf) _).set _ (.inl hf) _⟩
  have hn : ¬ ((F b ∧ b ≠ b) ∨ w.heap.size ≤ b) := by rintro (⟨_, h⟩ | h); exact h rfl; omega
  refine ((hw.set _ hn _).set _ hn _).mono fun k hk _ => ?_
  rcases hk with hk | hk
  · exact ⟨.inl hk.1, hk.2⟩
  · exact ⟨.inr hk, by omega⟩

set_option maxHeartbeats 1000000 in
theorem chain_put {w : World} {F G : Nat → Prop} {b : Nat} {c : Chn} {a : Int} {A2 : Option Addr} {c2 : Nat} {row : Bs} {gone : Bool} (h : ChainAt w F b c) (hl : c.l.length ≤ 1000000000) (hrow : row.length ≤ 1000000000)
    (hR : Rd Ty.u8 w G A2 row) (ha : c.last < a) :
    Calls Tryz.prog 145 #[.pointer (some ⟨b, 0, none⟩), .int .i64 a, .slice A2 row.length c2, .bool gone] w fun e w' =>
      e = .returned (.int .i64 0) ∧ ChainAt w' (fun k => F k ∨ w.heap.size ≤ k) b (c.put a row gone) ∧ Fr F w w' := by
  obtain ⟨hf, ho, v, hb, hw⟩ := h
  have ho' := Chn.ok_put ho ha row gone
  obtain ⟨A, cp, rfl, hcp, hrd⟩ := hw.slice
  have c0 := blk_cell hb 0
  have c1 := blk_cell hb 1
  have lb := blk_lt hb
  simp at c0 c1
  have hsz : ∀ k, (Value.slice A c.l.length cp).ownBlock = some k → k < w.heap.size := fun k hk => (hw.own hk).2
  have hown : ∀ w1, Fr No w w1 → Ow tVer 282 w1 (fun k => (F k ∧ k ≠ b) ∨ w.heap.size ≤ k) (.slice A c.l.length cp) c.l := fun w1 f => (hw.mono fun k hk _ => .inl hk).fr0 f
  have hne : (Value.slice A c.l.length cp).ownBlock ≠ some b := fun hk => (hw.own hk).1.2 rfl
  have HN := Lib.hid hne
  clear hne
  have HH := Lib.hid (And.intro hsz (And.intro hown (And.intro hb (And.intro hR (And.intro hl (And.intro hrow (And.intro ho' (And.intro hf hw))))))))
  clear hb hw hR hrd ho hl hrow ho' hsz hown hf
  have h1 : ∀ w1, Fr No w w1 → w1.heap[b]? = some (.cells #[.slice A c.l.length cp, .int .i64 c.last] 280 (0, 0)) := fun w1 f => f.blk HH.out.2.2.1 (fun f => f)
  have H1 := Lib.hid h1
  clear h1
  go_enter Tryz.func145, Tryz.ntmps145
  go_wp2_with fail
  go_region_law
    (first
      | (go_simp; go_at_call 100; refine (clone_ok (HH.out.2.2.2.1.fr0 ((Fr.refl No w).drew)) rfl (by have := HH.out; omega)).mono ?_; rintro e w2 ⟨A1, c1', rfl, ho2, hf2⟩
         have hf3 : Fr No w w2 := ((Fr.refl No w).drew).trans (hf2.mono fun _ _ f => f.elim); have k2 := blk_cell (H1.out _ hf3) 0; simp at k2; have k2a : ∀ o, (w2.alloc o).cell? ⟨b, 0, none⟩ = some (.slice A c.l.length cp) := fun o => cell_alloc k2 o)
      | (refine ow_append_step tVer (ys := [⟨a, row, gone⟩]) (HH.out.2.1 _ (by repeat (first | exact hf3 | apply Fr.alloc | apply Fr.drew | apply Fr.drewN))) _ _ _ 40 rfl rfl Tryz.underlying278 info_ver rfl (by decide) (by decide) rfl rfl rfl
           (Row.single (tVer_mk (A := A1) (c := c1') ho2.rd.2.1 (by
              refine (ho2.rd.2.2.fr0 ((Fr.refl No w2).alloc _)).mono fun k hk _ => ?_
              have hk' : w.heap.size ≤ k := hk
              exact ⟨.inr hk', fun he => by have := HH.out.1 k he; omega⟩))) (At.block (heap_alloc_new _ _)) (by have := HH.out; simp; omega) ?_
         intro A3 c3 w3 hown3 hg3 hat3
         have hb3 : w3.heap[b]? = some _ := (hg3.block b (by simp; have := hf3.size; omega) (fun e => HN.out e.symm)).trans (H1.out _ (hf3.alloc _))
         have k0 := blk_cell hb3 0; have k1 := blk_cell hb3 1; have z0 := blk_frozen hb3 0; have z1 := blk_frozen hb3 1; simp at k0 k1
         have HB3 := Lib.hid hb3; clear hb3; have hW : Fr F w w3 := ((hf3.alloc _).mono (fun _ _ f => f.elim)).grown hg3 (fun k hk => by have := HH.out; first | exact .inl ((this.2.2.2.2.2.2.2.2.own hk).1.1) | skip)))
  all_goals
    have hown4 : Ow tVer 282 w3 (fun k => (F k ∧ k ≠ b) ∨ w.heap.size ≤ k) (.slice A3 (c.l.length + 1) c3) (c.put a row gone).l := hown3.mono fun k hk _ => by
      rcases hk with hk | hk
      · exact hk
      · simp at hk; have := hf3.size; exact .inr (by omega)
    have HO := Lib.hid hown4
    clear hown3 hg3 hat3 hown4 k2 hf2 ho2 hf3
    go_wp2
    go_ret
    have := chain_shut HH.out.2.2.2.2.2.2.2.1 lb HH.out.2.2.2.2.2.2.1 HB3.out HO.out hW
    exact ⟨rfl, this.1, this.2⟩
end Go.Proofs.YtlmhphejgahfbaaGreatDoor
/- Layer 12 (chain), third part: Trim. -/
set_option linter.unusedVariables false
set_option linter.unusedSimpArgs false
namespace Go.Proofs.YtlmhphejgahfbaaGreatDoor
open Go.RowKit

theorem Chn.ok_trim {c : Chn} (h : c.Ok) (a : Int) : (c.trim a).Ok :=
  ⟨h.1.sublist (List.drop_sublist _ _), fun v hv => h.2 v (List.mem_of_mem_drop hv)⟩

theorem chain_shut1 {w w3 : World} {F : Nat → Prop} {b : Nat} {c : Chn} {v v3 : Value} (hf : F b) (lb : b < w.heap.size) (ho : c.Ok) (hb : w3.heap[b]? = some (.cells #[v, .int .i64 c.last] 280 (0, 0)))
    (hw : Ow tVer 282 w3 (fun k => (F k ∧ k ≠ b) ∨ w.heap.size ≤ k) v3 c.l) (hW : Fr F w w3) :
    ChainAt (w3.setCell ⟨b, 0, none⟩ v3) (fun k => F k ∨ w.heap.size ≤ k) b c ∧ Fr F w (w3.setCell ⟨b, 0, none⟩ v3) := by
  refine ⟨⟨.inl hf, ho, v3, by simpa using blk_set hb 0 v3, ?_⟩, hW.set _ (.inl hf) _⟩
  have hn : ¬ ((F b ∧ b ≠ b) ∨ w.heap.size ≤ b) := by rintro (⟨_, h⟩ | h); exact h rfl; omega
  refine (hw.set _ hn _).mono fun k hk _ => ?_
  rcases hk with hk | hk
  · exact ⟨.inl hk.1, hk.2⟩
  · exact ⟨.inr hk, by omega⟩

set_option maxHeartbeats 1000000 in
theorem chain_trim {w : World} {F : Nat → Prop} {b : Nat} {c : Chn} {a : Int} (h : ChainAt w F b c) (hl : c.l.length ≤ 1000000000) :
    Calls Tryz.prog 151 #[.pointer (some ⟨b, 0, none⟩), .int .i64 a] w fun e w' =>
      e = .returned (.int .i64 (c.cut a)) ∧ ChainAt w' (fun k => F k ∨ w.heap.size ≤ k) b (c.trim a) ∧ Fr F w w' := by
  have hle := seen_le c a
  have hs := chain_seen (a := a) h hl
  by_cases h0 : c.seen a = 0
  · have hg : c.cut a = 0 := by unfold Chn.cut; split <;> simp [h0]
    have ht : c.trim a = c := by unfold Chn.trim; rw [hg]; rfl
    rw [ht, hg]
    rw [h0] at hs
    have HS := Lib.hid (And.intro hs h)
    clear hs hle h0 hg ht h
    go_enter Tryz.func151, Tryz.ntmps151
    go_wp2_with (go_at_call 202; refine HS.out.1.mono ?_; rintro e w' ⟨rfl, hf⟩)
    go_ret
    exact ⟨rfl, (HS.out.2.fr0 hf).mono fun k hk _ => .inl hk, hf.mono fun _ _ f => f.elim⟩
  · obtain ⟨i, hie⟩ : ∃ i, c.seen a = i + 1 := ⟨c.seen a - 1, by omega⟩
    have hi : i < c.l.length := by omega
    have hcut : c.cut a = if c.l[i].gone then i + 1 else i := by
      unfold Chn.cut
      rw [hie]
      simp [hi]
    obtain ⟨g, hgg⟩ : ∃ g, c.l[i].gone = g := ⟨_, rfl⟩
    rw [hgg] at hcut
    obtain ⟨hf, ho, v, hb, hw⟩ := h
    have ho' := Chn.ok_trim ho a
    obtain ⟨A, cp, rfl, hcp, hrd⟩ := hw.slice
    have c0 := blk_cell hb 0
    have lb := blk_lt hb
    simp at c0
    rw [hie] at hs
    obtain ⟨k, hk⟩ : ∃ k, c.cut a = k := ⟨_, rfl⟩
    have hkn : k ≤ c.l.length := by rw [← hk, hcut]; split <;> omega
    obtain ⟨A', hrun, hA'⟩ := cut_lo tVer 278 282 .i64 Tryz.underlying278 (by kernel_rfl : (Tryz.prog.info? 282).map (·.size) = some 3) A c.l.length cp k hkn hcp
    have hrd' : Rd tVer w (fun k => F k ∧ k ≠ b) A' (c.trim a).l := by
      have := hA' w _ c.l rfl hrd
      unfold Chn.trim
      rw [hk]
      exact this
    have hlen : (c.trim a).l.length = c.l.length - k := by unfold Chn.trim; simp [hk]
    have h1 : ∀ w1, Fr No w w1 → ∃ ad, A = some ad ∧ w1.cell? ⟨(ad.add (i * 3)).block, (ad.add (i * 3)).off + 2, none⟩ = some (.bool g) ∧ w1.cell? ⟨b, 0, none⟩ = some (.slice A c.l.length cp) := by
      intro w1 f
      obtain ⟨ad, cs, e, hk, e0, e1⟩ := (hrd.fr0 f).get' hi (by decide)
      obtain ⟨A', c', rfl, _, hq⟩ := tVer_open hk
      exact ⟨ad, e, by rw [← hgg]; exact e1 2 _ (by decide) rfl, (f.to_below.cell (p := ⟨b, 0, none⟩) lb).trans c0⟩
    have hlast : (c.trim a).last = c.last := rfl
    have HS := Lib.hid hs
    have H1 := Lib.hid h1
    clear h1
    have HH := Lib.hid (And.intro hf (And.intro ho' (And.intro hb (And.intro hw (And.intro hrd' (And.intro hlen hlast))))))
    have hi0 : (0 : Int) ≤ (i : Int) := Int.natCast_nonneg _
    have hi1 : (i : Int) < (c.l.length : Int) := by omega
    rw [hk]
    clear hs hb hw ho hle h0 hf hrd ho' hrd' hA' hie hlen hlast hgg
    have hkg : k = if g = true then i + 1 else i := by rw [← hk, hcut]
    clear hk hcut hi
    generalize c.trim a = ct at *
    generalize c.l.length = n at *
    have arm : ∀ w1, Fr No w w1 → ∃ cs, Row tVer w1 (fun i_ => ((F i_ ∧ i_ ≠ b) ∧ (Value.slice none 0 0).ownBlock ≠ some i_)) ct.l cs ∧ At w1 A' cs := by
      intro w1 f
      obtain ⟨cs, h1, h2⟩ := (HH.out.2.2.2.2.1.fr0 f).at
      exact ⟨cs, h1.mono fun k hk _ => ⟨hk, by simp [Value.ownBlock]⟩, h2⟩
    have ARM := Lib.hid arm
    clear arm
    cases g
    · obtain rfl : k = i := by simpa using hkg
      clear hkg
      go_enter Tryz.func151, Tryz.ntmps151
      go_wp2_with (first
        | (go_at_call 202; refine HS.out.mono ?_; rintro e w1 ⟨rfl, hf1⟩; obtain ⟨ad, rfl, x2, xb⟩ := H1.out w1 hf1; obtain ⟨cs, hR, hAt⟩ := ARM.out w1 hf1; have HR := Lib.hid (And.intro hR hAt); clear hR hAt)
        | (at_builtin; refine ow_append tVer (F := fun k => F k ∧ k ≠ b) (Ow.nil) _ _ _ 40 rfl rfl Tryz.underlying278 info_ver rfl (by decide) (by decide) rfl rfl HH.out.2.2.2.2.2.1.symm HR.out.1 HR.out.2 (by have := HH.out; simp; omega) ?_
           intro A3 c3 w3 hown3 hg3 hat3
           have hb3 : w3.heap[b]? = some _ := (hg3.block b (by have := hf1.size; omega) (by simp [Value.ownBlock])).trans (hf1.blk HH.out.2.2.1 (fun f => f))
           have k0 := blk_cell hb3 0; have z0 := blk_frozen hb3 0; simp at k0
           have hW : Fr No w w3 := hf1.grown hg3 (fun k hk => by simp [Value.ownBlock] at hk)
           have ho3 : Ow tVer 282 w3 (fun k => (F k ∧ k ≠ b) ∨ w.heap.size ≤ k) (.slice A3 ct.l.length c3) ct.l := by
             have := hown3; simp only [List.length_nil, Nat.zero_add, List.nil_append] at this
             exact this.mono fun k hk _ => hk.imp id fun h => by have := hf1.size; omega
           have H3 := Lib.hid (And.intro hb3 (And.intro hW ho3)); clear hb3 hW ho3 hown3 hg3 hat3))
      go_ret
      have h3 := H3.out
      have hc := HH.out
      rw [← hc.2.2.2.2.2.2] at h3
      have := chain_shut1 hc.1 lb hc.2.1 h3.1 h3.2.2 (h3.2.1.mono fun _ _ f => f.elim)
      exact ⟨rfl, this.1, this.2⟩
    · obtain rfl : k = i + 1 := by simpa using hkg
      clear hkg
      have hrun' : ∀ W, Sem.run Tryz.prog (Instr.slice 278 (.slice A n cp) (some (.int .i64 ((i : Int) + 1))) none none) W = .ok (.slice A' (n - (i + 1)) (cp - (i + 1))) W := hrun
      clear hrun
      have hn2 : (n : Int) ≤ 1000000000 := by omega
      go_enter Tryz.func151, Tryz.ntmps151
      go_wp2_with (first
        | (go_at_call 202; refine HS.out.mono ?_; rintro e w1 ⟨rfl, hf1⟩; obtain ⟨ad, rfl, x2, xb⟩ := H1.out w1 hf1; obtain ⟨cs, hR, hAt⟩ := ARM.out w1 hf1; have HR := Lib.hid (And.intro hR hAt); clear hR hAt)
        | (at_builtin; refine ow_append tVer (F := fun k => F k ∧ k ≠ b) (Ow.nil) _ _ _ 40 rfl rfl Tryz.underlying278 info_ver rfl (by decide) (by decide) rfl rfl HH.out.2.2.2.2.2.1.symm HR.out.1 HR.out.2 (by have := HH.out; simp; omega) ?_
           intro A3 c3 w3 hown3 hg3 hat3
           have hb3 : w3.heap[b]? = some _ := (hg3.block b (by have := hf1.size; omega) (by simp [Value.ownBlock])).trans (hf1.blk HH.out.2.2.1 (fun f => f))
           have k0 := blk_cell hb3 0; have z0 := blk_frozen hb3 0; simp at k0
           have hW : Fr No w w3 := hf1.grown hg3 (fun k hk => by simp [Value.ownBlock] at hk)
           have ho3 : Ow tVer 282 w3 (fun k => (F k ∧ k ≠ b) ∨ w.heap.size ≤ k) (.slice A3 ct.l.length c3) ct.l := by
             have := hown3; simp only [List.length_nil, Nat.zero_add, List.nil_append] at this
             exact this.mono fun k hk _ => hk.imp id fun h => by have := hf1.size; omega
           have H3 := Lib.hid (And.intro hb3 (And.intro hW ho3)); clear hb3 hW ho3 hown3 hg3 hat3))
      go_ret
      have h3 := H3.out
      have hc := HH.out
      rw [← hc.2.2.2.2.2.2] at h3
      have := chain_shut1 hc.1 lb hc.2.1 h3.1 h3.2.2 (h3.2.1.mono fun _ _ f => f.elim)
      exact ⟨rfl, this.1, this.2⟩
end Go.Proofs.YtlmhphejgahfbaaGreatDoor
