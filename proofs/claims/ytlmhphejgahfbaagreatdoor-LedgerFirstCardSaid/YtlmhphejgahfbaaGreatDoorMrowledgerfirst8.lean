/- Texts of this claim, one behind the other: TRight, Bit. -/
import Derived.Test.YtlmhphejgahfbaaGreatDoorMrowledgerfirst7
import Derived.Test.YtlmhphejgahfbaaGreatDoorMrowledgerfirst3
import Derived.Carry
import Derived.Test.YtlmhphejgahfbaaGreatDoorMrowledgerfirst2
/- table.Right of the one table of Tables(nil). -/
set_option linter.unusedVariables false
set_option linter.unusedSimpArgs false
namespace Go.Proofs.YtlmhphejgahfbaaGreatDoor
open Go.RowKit

set_option maxHeartbeats 400000 in
set_option maxRecDepth 100000 in
theorem named_ok {w : World} (s : ByteArray) (h1 : 1 ≤ s.size) (h2 : s.size ≤ 20) : Calls Tryz.prog 156 #[.string s] w fun e w' => e = .returned (.bool true) ∧ w' = w := by
  have h1' : (1 : Int) ≤ (s.size : Int) := by omega
  have h2' : (s.size : Int) ≤ 20 := by omega
  go_enter Tryz.func156, Tryz.ntmps156
  go_wp2_with fail
  go_ret
  exact ⟨rfl, rfl⟩
set_option maxHeartbeats 400000 in
set_option maxRecDepth 100000 in
theorem name_tab {w : World} (s : ByteArray) (a : Option Addr) (n c : Nat) (k : Int) : Calls Tryz.prog 86 #[.agg #[.string s, .slice a n c, .int .i64 k]] w fun e w' => e = .returned (.string s) ∧ Fr No w w' := by
  have hw := Lib.hid (Fr.refl No w)
  go_enter Tryz.func86, Tryz.ntmps86
  go_wp2_with fail
  go_ret
  exact ⟨rfl, hw.out.alloc _⟩
set_option maxHeartbeats 400000 in
set_option maxRecDepth 100000 in
theorem name_col {w : World} (s : ByteArray) (k : Int) (b : Bool) : Calls Tryz.prog 158 #[.agg #[.string s, .int .u8 k, .bool b]] w fun e w' => e = .returned (.string s) ∧ Fr No w w' := by
  have hw := Lib.hid (Fr.refl No w)
  go_enter Tryz.func158, Tryz.ntmps158
  go_wp2_with fail
  go_ret
  exact ⟨rfl, hw.out.alloc _⟩
theorem tab_at {w : World} {F : Nat → Prop} {A : Option Addr} {l : List Tab} (h : Rd tTab w F A l) {i : Nat} (hi : i < l.length) :
    ∃ ad R c, A = some ad ∧ w.cell? (ad.add (i * 3)) = some (.string l[i].1) ∧ w.cell? ⟨(ad.add (i * 3)).block, (ad.add (i * 3)).off + 1, none⟩ = some (.slice R l[i].2.1.length c) ∧ w.cell? ⟨(ad.add (i * 3)).block, (ad.add (i * 3)).off + 2, none⟩ = some (.int .i64 l[i].2.2) ∧ l[i].2.1.length ≤ c ∧ Rd tCol w F R l[i].2.1 := by
  obtain ⟨ad, cs, e, hk, h0, h1⟩ := h.get' hi (by decide)
  obtain ⟨c1, c2, rfl, k1, k2⟩ := hk
  obtain rfl : c1 = _ := k1
  obtain ⟨c3, c4, rfl, k3, k4⟩ := k2
  obtain ⟨R, c, rfl, k5, k6⟩ := k3
  obtain rfl : c4 = _ := k4
  exact ⟨ad, R, c, e, h0 _ rfl, h1 1 _ (by decide) rfl, h1 2 _ (by decide) rfl, k5, k6⟩
theorem col_at {w : World} {F : Nat → Prop} {A : Option Addr} {l : List Col} (h : Rd tCol w F A l) {i : Nat} (hi : i < l.length) :
    ∃ ad, A = some ad ∧ w.cell? (ad.add (i * 3)) = some (.string l[i].1) ∧ w.cell? ⟨(ad.add (i * 3)).block, (ad.add (i * 3)).off + 1, none⟩ = some (.int .u8 (l[i].2.1.toNat : Int)) ∧ w.cell? ⟨(ad.add (i * 3)).block, (ad.add (i * 3)).off + 2, none⟩ = some (.bool l[i].2.2) := by
  obtain ⟨ad, cs, e, hk, h0, h1⟩ := h.get' hi (by decide)
  obtain ⟨c1, c2, rfl, k1, k2⟩ := hk
  obtain rfl : c1 = _ := k1
  obtain ⟨c3, c4, rfl, k3, k4⟩ := k2
  obtain rfl : c3 = _ := k3
  obtain rfl : c4 = _ := k4
  exact ⟨ad, e, h0 _ rfl, h1 1 _ (by decide) rfl, h1 2 _ (by decide) rfl⟩

theorem zero_bool (w : World) : (zeroValue 4).run Tryz.prog w = .ok (.bool false) w := by kernel_rfl
/-- The names so far, each true. -/
def namesM (l : List ByteArray) : List (ByteArray × Value) := l.map fun s => (s, .bool true)
theorem look_names {l : List ByteArray} {s : ByteArray} (h : s ∉ l) : look s (namesM l) = none := by
  rw [look_none_iff]; unfold namesM; rw [List.map_map]; simpa using h
theorem lay_names {l : List ByteArray} {s : ByteArray} (h : s ∉ l) : lay s (.bool true) (namesM l) = namesM (l ++ [s]) := by
  rw [lay_new (look_names h)]; unfold namesM; rw [List.map_append]; rfl

set_option maxHeartbeats 1000000 in
set_option maxRecDepth 100000 in
theorem unlike_tabs {w : World} {F : Nat → Prop} {A : Option Addr} {c : Nat} {l : List Tab} (h : Rd tTab w F A l) (hn : ∀ t ∈ l, 1 ≤ t.1.size ∧ t.1.size ≤ 20) (hd : (l.map (·.1)).Nodup) : Calls Tryz.prog 85 #[.slice A l.length c, .func (.func 86) #[] #[]] w fun e w' => e = .returned (.bool true) ∧ Fr No w w' := by
  have H := Lib.hid (And.intro h (And.intro hn hd))
  have hmm := @run_makeMap Tryz.prog
  have HC := Lib.hid fun (w : World) => name_tab (w := w)
  have HN := Lib.hid fun (w : World) (s : ByteArray) => named_ok (w := w) s
  have hl63 := h.1
  have hl63i : (l.length : Int) ≤ 9223372036854775807 := by omega
  clear h hn hd hl63
  go_enter Tryz.func85, Tryz.ntmps85
  go_wp2_with fail
  go_loopw [12] (fun iv wr => ∃ k : Nat, k ≤ l.length ∧ iv = .int .i64 (k : Int) ∧ Hid (MapIs wr w.heap.size (namesM ((l.take k).map (·.1))) ∧ Fr No w wr)) (fun iv _ => l.length - (intOf iv).toNat)
  case atStart => exact ⟨0, Nat.zero_le _, rfl, by rw [List.take_zero]; exact MapIs.new w, (Fr.refl No w).alloc _⟩
  case round =>
    obtain ⟨k, hk, rfl, I⟩ := hrel
    have hk0 : (0 : Int) ≤ (k : Int) := Int.natCast_nonneg _
    by_cases hlt : k < l.length
    · have hk1 : (k : Int) < (l.length : Int) := by omega
      obtain ⟨ad, R, c1, rfl, x0, x1, x2, _, _⟩ := tab_at (H.out.1.fr0 I.out.2) hlt
      obtain ⟨n1, n2⟩ := H.out.2.1 l[k] (List.getElem_mem hlt)
      have hnot : l[k].1 ∉ (l.take k).map (·.1) := by
        intro hm
        obtain ⟨t, ht, e⟩ := List.mem_map.1 hm
        obtain ⟨j, hj, rfl⟩ := List.mem_take_iff_getElem.1 ht
        have := (List.pairwise_iff_getElem.1 H.out.2.2) j k (by simp; omega) (by simpa using hlt) (by omega)
        simp at this
        exact this e
      have hsucc : (l.take (k + 1)).map (·.1) = (l.take k).map (·.1) ++ [l[k].1] := by
        rw [List.take_succ_eq_append_getElem hlt, List.map_append]; rfl
      obtain ⟨s, hs⟩ : ∃ s, l[k].1 = s := ⟨_, rfl⟩
      obtain ⟨nl, hnl⟩ : ∃ nl, l[k].2.1.length = nl := ⟨_, rfl⟩
      obtain ⟨kk, hkk⟩ : ∃ kk, l[k].2.2 = kk := ⟨_, rfl⟩
      rw [hs] at x0 n1 n2 hnot hsucc
      rw [hnl] at x1
      rw [hkk] at x2
      have HS := Lib.hid (And.intro hnot (And.intro hsucc (And.intro n1 n2)))
      clear hnot hsucc n1 n2 hs hnl hkk
      go_wp2_with fail
      refine (HC.out _ s R nl c1 kk).mono ?_
      rintro e w3 ⟨rfl, hf3⟩
      have hfr3 : Fr No wr w3 := ((Fr.refl No wr).alloc _).next hf3 (fun _ _ f => f.elim)
      have hm3 : MapIs w3 w.heap.size (namesM ((l.take k).map (·.1))) := I.out.1.stab (hfr3.block _ I.out.1.lt (fun f => f))
      have hlook := (run_map_look hm3 139 9 4 Tryz.underlying139 Tryz.underlying9 (.bool false) (zero_bool w3) s).1
      rw [look_names HS.out.1] at hlook
      simp only [Option.getD_none] at hlook
      obtain ⟨w4, hlay, hm4, hf4⟩ := run_map_lay (P := Tryz.prog) hm3 139 9 4 Tryz.underlying139 Tryz.underlying9 s (.bool true)
      rw [lay_names HS.out.1, ← HS.out.2.1] at hm4
      have HZ := Lib.hid (And.intro hm4 ((I.out.2.next hfr3 (fun _ _ f => f.elim)).next hf4 (fun i hi e => by omega)))
      clear hf3 hfr3 hm3 hm4 hf4
      go_wp2_with fail
      refine (HN.out _ s HS.out.2.2.1 HS.out.2.2.2).mono ?_
      rintro e w5 ⟨rfl, rfl⟩
      go_wp2_with fail
      go_roundw
      case rel => exact ⟨k + 1, by omega, by go_num, HZ.out.1, HZ.out.2⟩
      case measure => simp [intOf]; omega
    · obtain rfl : k = l.length := by omega
      go_wp2_with fail
      go_ret
      exact ⟨rfl, I.out.2⟩
set_option maxHeartbeats 1000000 in
set_option maxRecDepth 100000 in
theorem unlike_cols {w : World} {F : Nat → Prop} {A : Option Addr} {c : Nat} {l : List Col} (h : Rd tCol w F A l) (hn : ∀ t ∈ l, 1 ≤ t.1.size ∧ t.1.size ≤ 20) (hd : (l.map (·.1)).Nodup) : Calls Tryz.prog 157 #[.slice A l.length c, .func (.func 158) #[] #[]] w fun e w' => e = .returned (.bool true) ∧ Fr No w w' := by
  have H := Lib.hid (And.intro h (And.intro hn hd))
  have hmm := @run_makeMap Tryz.prog
  have HC := Lib.hid fun (w : World) => name_col (w := w)
  have HN := Lib.hid fun (w : World) (s : ByteArray) => named_ok (w := w) s
  have hl63 := h.1
  have hl63i : (l.length : Int) ≤ 9223372036854775807 := by omega
  clear h hn hd hl63
  go_enter Tryz.func157, Tryz.ntmps157
  go_wp2_with fail
  go_loopw [12] (fun iv wr => ∃ k : Nat, k ≤ l.length ∧ iv = .int .i64 (k : Int) ∧ Hid (MapIs wr w.heap.size (namesM ((l.take k).map (·.1))) ∧ Fr No w wr)) (fun iv _ => l.length - (intOf iv).toNat)
  case atStart => exact ⟨0, Nat.zero_le _, rfl, by rw [List.take_zero]; exact MapIs.new w, (Fr.refl No w).alloc _⟩
  case round =>
    obtain ⟨k, hk, rfl, I⟩ := hrel
    have hk0 : (0 : Int) ≤ (k : Int) := Int.natCast_nonneg _
    by_cases hlt : k < l.length
    · have hk1 : (k : Int) < (l.length : Int) := by omega
      obtain ⟨ad, rfl, x0, x1, x2⟩ := col_at (H.out.1.fr0 I.out.2) hlt
      obtain ⟨n1, n2⟩ := H.out.2.1 l[k] (List.getElem_mem hlt)
      have hnot : l[k].1 ∉ (l.take k).map (·.1) := by
        intro hm
        obtain ⟨t, ht, e⟩ := List.mem_map.1 hm
        obtain ⟨j, hj, rfl⟩ := List.mem_take_iff_getElem.1 ht
        have := (List.pairwise_iff_getElem.1 H.out.2.2) j k (by simp; omega) (by simpa using hlt) (by omega)
        simp at this
        exact this e
      have hsucc : (l.take (k + 1)).map (·.1) = (l.take k).map (·.1) ++ [l[k].1] := by
        rw [List.take_succ_eq_append_getElem hlt, List.map_append]; rfl
      obtain ⟨s, hs⟩ : ∃ s, l[k].1 = s := ⟨_, rfl⟩
      obtain ⟨nl, hnl⟩ : ∃ nl, (l[k].2.1.toNat : Int) = nl := ⟨_, rfl⟩
      obtain ⟨kk, hkk⟩ : ∃ kk, l[k].2.2 = kk := ⟨_, rfl⟩
      rw [hs] at x0 n1 n2 hnot hsucc
      rw [hnl] at x1
      rw [hkk] at x2
      have HS := Lib.hid (And.intro hnot (And.intro hsucc (And.intro n1 n2)))
      clear hnot hsucc n1 n2 hs hnl hkk
      go_wp2_with fail
      refine (HC.out _ s nl kk).mono ?_
      rintro e w3 ⟨rfl, hf3⟩
      have hfr3 : Fr No wr w3 := ((Fr.refl No wr).alloc _).next hf3 (fun _ _ f => f.elim)
      have hm3 : MapIs w3 w.heap.size (namesM ((l.take k).map (·.1))) := I.out.1.stab (hfr3.block _ I.out.1.lt (fun f => f))
      have hlook := (run_map_look hm3 139 9 4 Tryz.underlying139 Tryz.underlying9 (.bool false) (zero_bool w3) s).1
      rw [look_names HS.out.1] at hlook
      simp only [Option.getD_none] at hlook
      obtain ⟨w4, hlay, hm4, hf4⟩ := run_map_lay (P := Tryz.prog) hm3 139 9 4 Tryz.underlying139 Tryz.underlying9 s (.bool true)
      rw [lay_names HS.out.1, ← HS.out.2.1] at hm4
      have HZ := Lib.hid (And.intro hm4 ((I.out.2.next hfr3 (fun _ _ f => f.elim)).next hf4 (fun i hi e => by omega)))
      clear hf3 hfr3 hm3 hm4 hf4
      go_wp2_with fail
      refine (HN.out _ s HS.out.2.2.1 HS.out.2.2.2).mono ?_
      rintro e w5 ⟨rfl, rfl⟩
      go_wp2_with fail
      go_roundw
      case rel => exact ⟨k + 1, by omega, by go_num, HZ.out.1, HZ.out.2⟩
      case measure => simp [intOf]; omega
    · obtain rfl : k = l.length := by omega
      go_wp2_with fail
      go_ret
      exact ⟨rfl, I.out.2⟩

/-- A table that may be. -/
structure TabOk (t : Tab) : Prop where
  some : 1 ≤ t.2.1.length
  most : t.2.1.length ≤ 8
  keys : 1 ≤ t.2.2
  fit : t.2.2 ≤ (t.2.1.length : Int)
  kind : ∀ i (h : i < t.2.1.length), t.2.1[i].2.1 = 1 ∨ t.2.1[i].2.1 = 2
  null : ∀ i (h : i < t.2.1.length), t.2.1[i].2.2 = true → t.2.2 ≤ (i : Int)
  names : ∀ c ∈ t.2.1, 1 ≤ c.1.size ∧ c.1.size ≤ 20
  once : (t.2.1.map (·.1)).Nodup

set_option maxHeartbeats 2000000 in
set_option maxRecDepth 100000 in
theorem columns_ok {w : World} {F : Nat → Prop} {R : Option Addr} {c : Nat} {t : Tab} (h : Rd tCol w F R t.2.1) (g : TabOk t) : Calls Tryz.prog 87 #[.agg #[.string t.1, .slice R t.2.1.length c, .int .i64 t.2.2]] w fun e w' => e = .returned (.bool true) ∧ Fr No w w' := by
  have hl8 : (t.2.1.length : Int) ≤ 8 := by have := g.most; omega
  have hU := fun (w1 : World) (f : Fr No w w1) => unlike_cols (c := c) (h.fr0 f) g.names g.once
  obtain ⟨s, cs, kk⟩ := t
  have H := Lib.hid (And.intro h (And.intro g hU))
  have hw := Lib.hid (Fr.refl No w)
  clear h g hU
  go_enter Tryz.func87, Tryz.ntmps87
  go_wp2_with fail
  obtain ⟨W, hW⟩ : ∃ W, W = w.alloc (.cells #[.string s, .slice R cs.length c, .int .i64 kk] 54) := ⟨_, rfl⟩
  have hfW : Fr No w W := by rw [hW]; exact hw.out.alloc _
  have hbW : W.heap[w.heap.size]? = some (.cells #[.string s, .slice R cs.length c, .int .i64 kk] 54) := by rw [hW]; exact heap_alloc_new _ _
  rw [← hW]
  have HW := Lib.hid (And.intro hfW hbW)
  clear hW hfW hbW
  go_loopw [8] (fun iv wr => ∃ k : Nat, k ≤ cs.length ∧ iv = .int .i64 (k : Int) ∧ Hid (Fr No W wr)) (fun iv _ => cs.length - (intOf iv).toNat)
  case atStart => exact ⟨0, Nat.zero_le _, rfl, Fr.refl _ _⟩
  case round =>
    obtain ⟨k, hk, rfl, I⟩ := hrel
    have hk0 : (0 : Int) ≤ (k : Int) := Int.natCast_nonneg _
    have hb := I.out.blk HW.out.2 (fun f => f)
    have b0 := blk_cell hb 0
    have b1 := blk_cell hb 1
    have b2 := blk_cell hb 2
    simp at b0 b1 b2
    have hfw := HW.out.1.next I.out (fun _ _ f => f.elim)
    by_cases hlt : k < cs.length
    · have hk1 : (k : Int) < (cs.length : Int) := by omega
      obtain ⟨ad, rfl, x0, x1, x2⟩ := col_at (H.out.1.fr0 hfw) hlt
      have hkind := H.out.2.1.kind k hlt
      have hnull := H.out.2.1.null k hlt
      simp only [] at hkind hnull
      have hg0 := Fr.refl No wr
      obtain ⟨sn, hsn⟩ : ∃ sn, cs[k].1 = sn := ⟨_, rfl⟩
      obtain ⟨nb, hnb⟩ : ∃ nb, cs[k].2.2 = nb := ⟨_, rfl⟩
      rw [hsn] at x0
      rw [hnb] at x2 hnull
      have HI := Lib.hid (And.intro I.out hg0)
      rcases hkind with e | e
      · rw [e] at x1
        change _ = some (Value.int IntKind.u8 1) at x1
        cases nb with
        | false =>
          clear hnull e hsn hnb hb hfw I
          go_wp2_with fail
          go_roundw
          case rel => exact ⟨k + 1, by omega, by go_num, HI.out.1.alloc _⟩
          case measure => simp [intOf]; omega
        | true =>
          have hkk : kk ≤ (k : Int) := hnull rfl
          have hkk2 : ¬ (k : Int) < kk := by omega
          have b2a := fun o => cell_alloc b2 o
          clear hnull e hsn hnb hb hfw I
          go_wp2_with fail
          go_roundw
          case rel => exact ⟨k + 1, by omega, by go_num, HI.out.1.alloc _⟩
          case measure => simp [intOf]; omega
      · rw [e] at x1
        change _ = some (Value.int IntKind.u8 2) at x1
        cases nb with
        | false =>
          clear hnull e hsn hnb hb hfw I
          go_wp2_with fail
          go_roundw
          case rel => exact ⟨k + 1, by omega, by go_num, HI.out.1.alloc _⟩
          case measure => simp [intOf]; omega
        | true =>
          have hkk : kk ≤ (k : Int) := hnull rfl
          have hkk2 : ¬ (k : Int) < kk := by omega
          have b2a := fun o => cell_alloc b2 o
          clear hnull e hsn hnb hb hfw I
          go_wp2_with fail
          go_roundw
          case rel => exact ⟨k + 1, by omega, by go_num, HI.out.1.alloc _⟩
          case measure => simp [intOf]; omega
    · obtain rfl : k = cs.length := by omega
      have HF := Lib.hid hfw
      clear hfw hb
      go_wp2_with fail
      refine (H.out.2.2 _ HF.out).mono ?_
      rintro e w3 ⟨rfl, hf3⟩
      have H3 := Lib.hid (HF.out.next hf3 (fun _ _ f => f.elim))
      clear hf3
      go_wp2_with fail
      go_ret
      exact ⟨rfl, H3.out⟩

/-- Tables that may be. -/
structure TabsOk (l : List Tab) : Prop where
  some : 1 ≤ l.length
  most : l.length ≤ 4
  each : ∀ t ∈ l, TabOk t
  names : ∀ t ∈ l, 1 ≤ t.1.size ∧ t.1.size ≤ 20
  once : (l.map (·.1)).Nodup

set_option maxHeartbeats 2000000 in
set_option maxRecDepth 100000 in
theorem tright_ok {w : World} {F : Nat → Prop} {A : Option Addr} {c : Nat} {l : List Tab} (h : Rd tTab w F A l) (g : TabsOk l) : Calls Tryz.prog 37 #[.slice A l.length c] w fun e w' => e = .returned (.bool true) ∧ Fr No w w' := by
  have hl1 : (1 : Int) ≤ (l.length : Int) := by have := g.some; omega
  have hl4 : (l.length : Int) ≤ 4 := by have := g.most; omega
  have hU := unlike_tabs (c := c) h g.names g.once
  have H := Lib.hid (And.intro h (And.intro g hU))
  clear h g hU
  go_enter Tryz.func37, Tryz.ntmps37
  go_wp2_with fail
  refine H.out.2.2.mono ?_
  rintro e w1 ⟨rfl, hf1⟩
  have H1 := Lib.hid hf1
  clear hf1
  go_wp2_with fail
  go_loopw [21] (fun iv wr => ∃ k : Nat, k ≤ l.length ∧ iv = .int .i64 (k : Int) ∧ Hid (Fr No w wr)) (fun iv _ => l.length - (intOf iv).toNat)
  case atStart => exact ⟨0, Nat.zero_le _, rfl, H1.out⟩
  case round =>
    obtain ⟨k, hk, rfl, I⟩ := hrel
    have hk0 : (0 : Int) ≤ (k : Int) := Int.natCast_nonneg _
    by_cases hlt : k < l.length
    · have hk1 : (k : Int) < (l.length : Int) := by omega
      obtain ⟨ad, R, c1, rfl, x0, x1, x2, _, hR⟩ := tab_at (H.out.1.fr0 I.out) hlt
      have g := H.out.2.1.each l[k] (List.getElem_mem hlt)
      obtain ⟨t, ht⟩ : ∃ t, l[k] = t := ⟨_, rfl⟩
      rw [ht] at x0 x1 x2 hR g
      have hcl := fun (w1 : World) (f : Fr No wr w1) => columns_ok (c := c1) (hR.fr0 f) g
      obtain ⟨sn, cs, kk⟩ := t
      have n1 : (1 : Int) ≤ (cs.length : Int) := Int.ofNat_le.2 g.some
      have n8 : (cs.length : Int) ≤ 8 := Int.ofNat_le.2 g.most
      have k1 : (1 : Int) ≤ kk := g.keys
      have k2 : kk ≤ (cs.length : Int) := g.fit
      have HS := Lib.hid (And.intro hcl I.out)
      have g0 := Lib.hid (Fr.refl No wr)
      change wr.cell? (ad.add (k * 3)) = some (.string sn) at x0
      change wr.cell? _ = some (.slice R cs.length c1) at x1
      change wr.cell? _ = some (.int .i64 kk) at x2
      clear hcl g hR ht I
      go_wp2_with fail
      refine (HS.out.1 _ (g0.out.alloc _)).mono ?_
      rintro e w3 ⟨rfl, hf3⟩
      have H3 := Lib.hid (HS.out.2.next ((g0.out.alloc _).next hf3 (fun _ _ f => f.elim)) (fun _ _ f => f.elim))
      clear hf3
      go_wp2_with fail
      go_roundw
      case rel => exact ⟨k + 1, by omega, by go_num, H3.out⟩
      case measure => simp [intOf]; omega
    · obtain rfl : k = l.length := by omega
      go_wp2_with fail
      go_ret
      exact ⟨rfl, I.out⟩
theorem tab0_ok : TabsOk [tab0] where
  some := by decide
  most := by decide
  each := by
    intro t ht
    obtain rfl : t = tab0 := by simpa using ht
    exact {
      some := by decide
      most := by decide
      keys := by decide
      fit := by decide
      kind := fun i h => by
        obtain rfl : i = 0 := by simp [tab0] at h; exact h
        exact .inl rfl
      null := fun i h e => by
        obtain rfl : i = 0 := by simp [tab0] at h; exact h
        cases e
      names := fun c hc => by
        obtain rfl : c = (one 97, 1, false) := by simpa [tab0] using hc
        exact ⟨by decide, by decide⟩
      once := by simp [tab0] }
  names := by
    intro t ht
    obtain rfl : t = tab0 := by simpa using ht
    decide
  once := by simp
end Go.Proofs.YtlmhphejgahfbaaGreatDoor
/- The i-th bit of a sum: the program's and the reference's. -/
set_option linter.unusedVariables false
set_option linter.unusedSimpArgs false
namespace Go.Proofs.YtlmhphejgahfbaaGreatDoor
open Go.RowKit

def bitN (d : ByteArray) (i : Nat) : Nat := ((d.data.toList[i / 8]?).getD 0).toNat / 2 ^ (7 - i % 8) % 2
def bitB (d : ByteArray) (i : Nat) : Bool := bitN d i == 1
theorem bitN_lt (d : ByteArray) (i : Nat) : bitN d i < 2 := Nat.mod_lt _ (by decide)
theorem bitN_eq (d : ByteArray) (i : Nat) : bitN d i = if bitB d i then 1 else 0 := by
  have := bitN_lt d i
  unfold bitB
  rcases Nat.lt_or_ge (bitN d i) 1 with h | h
  · have : bitN d i = 0 := by omega
    rw [this]; rfl
  · have : bitN d i = 1 := by omega
    rw [this]; rfl

theorem shift_u8 (x : Nat) (s : Nat) (hs : s ≤ 7) : Op.shift .shr .u8 (x : Int) .i64 (s : Int) = pure (.int .u8 ((x / 2 ^ s : Nat) : Int)) := by
  have h1 : min ((s : Int).toNat) IntKind.u8.bits = s := by rw [Int.toNat_natCast]; exact Nat.min_eq_left (by show s ≤ 8; omega)
  simp only [Op.shift, h1]
  rw [if_neg (by omega)]
  congr 2
  rw [Int.fdiv_eq_ediv_of_nonneg _ (Int.pow_nonneg (by omega)), Int.natCast_ediv, Int.natCast_pow]
  rfl
theorem and_one (y : Nat) (hy : y < 256) : bits .and .i64 (y : Int) 1 = ((y % 2 : Nat) : Int) := by
  revert hy; revert y
  decide +kernel
theorem shift_i64 (x : Nat) (s : Nat) (hs : s ≤ 7) : Op.shift .shr .i64 (x : Int) .i64 (s : Int) = pure (.int .i64 ((x / 2 ^ s : Nat) : Int)) := by
  have h1 : min ((s : Int).toNat) IntKind.i64.bits = s := by rw [Int.toNat_natCast]; exact Nat.min_eq_left (by show s ≤ 64; omega)
  simp only [Op.shift, h1]
  rw [if_neg (by omega)]
  congr 2
  rw [Int.fdiv_eq_ediv_of_nonneg _ (Int.pow_nonneg (by omega)), Int.natCast_ediv, Int.natCast_pow]
  rfl


theorem bit_parts (d : ByteArray) (i : Nat) (hi : i / 8 < d.size) (hd : d.size ≤ 100) : ∃ q r s y : Nat, ∃ hq : q < d.size, (i : Int) ≤ 1000 ∧ (i : Int) / 8 = (q : Int) ∧ (i : Int) % 8 = (r : Int) ∧ (7 : Int) - (r : Int) = (s : Int) ∧ IntKind.i64.wrap (s : Int) = (s : Int) ∧ (d[q].toNat : Int) / 2 ^ s = (y : Int) ∧ y < 256 ∧ y % 2 = bitN d i ∧ s ≤ 7 := by
  have hb := d[i / 8].toNat_lt
  refine ⟨i / 8, i % 8, 7 - i % 8, d[i / 8].toNat / 2 ^ (7 - i % 8), hi, by omega, by omega, by omega, by omega, IntWalk.i64_in _ (by omega), by rw [Int.natCast_ediv, Int.natCast_pow]; rfl, Nat.lt_of_le_of_lt (Nat.div_le_self _ _) hb, ?_, by omega⟩
  unfold bitN
  rw [List.getElem?_eq_getElem (by simpa using hi)]
  rfl

theorem ret_int {k : IntKind} {a b : Int} (h : a = b) : Ending.returned (.int k a) = .returned (.int k b) := by rw [h]
set_option maxHeartbeats 1000000 in
set_option maxRecDepth 100000 in
theorem sha_bit (d : ByteArray) (i : Nat) (hi : i / 8 < d.size) (hd : d.size ≤ 100) (w : World) :
    Calls Tryz.prog 130 #[.string d, .int .i64 (i : Int)] w fun e w' => e = .returned (.int .i64 (bitN d i : Int)) ∧ w' = w := by
  obtain ⟨q, r, s, y, hq, hi1, e1, e2, e3, e4, e5, hy, hb, hs⟩ := bit_parts d i hi hd
  have hi0 : (0 : Int) ≤ (i : Int) := Int.natCast_nonneg _
  have hqs : (q : Int) < (d.size : Int) := by omega
  have hq0 : (0 : Int) ≤ (q : Int) := Int.natCast_nonneg _
  have hy0 : (0 : Int) ≤ (y : Int) := Int.natCast_nonneg _
  have hy1 : (y : Int) < 256 := by omega
  have hs0 : (0 : Int) ≤ (s : Int) := Int.natCast_nonneg _
  have hs1 : (s : Int) ≤ 7 := by omega
  have k2 := and_one y hy
  rw [hb] at k2
  obtain ⟨v, hv⟩ : ∃ v, bitN d i = v := ⟨_, rfl⟩
  rw [hv] at k2 ⊢
  clear hb hv hy hs hi hd
  go_enter Tryz.func130, Tryz.ntmps130
  go_wp2_with fail
  go_ret
  exact ⟨rfl, rfl⟩
set_option maxHeartbeats 1000000 in
set_option maxRecDepth 100000 in
theorem ref_bit (d : ByteArray) (i : Nat) (hi : i / 8 < d.size) (hd : d.size ≤ 100) (w : World) :
    Calls Tryz.prog 207 #[.string d, .int .i64 (i : Int)] w fun e w' => e = .returned (.int .i64 (bitN d i : Int)) ∧ w' = w := by
  obtain ⟨q, r, s, y, hq, hi1, e1, e2, e3, e4, e5, hy, hb, hs⟩ := bit_parts d i hi hd
  have hi0 : (0 : Int) ≤ (i : Int) := Int.natCast_nonneg _
  have hi2 : (i : Int) < 8 * (d.size : Int) := by omega
  have hd0 : (d.size : Int) ≤ 100 := by omega
  have hqs : (q : Int) < (d.size : Int) := by omega
  have hq0 : (0 : Int) ≤ (q : Int) := Int.natCast_nonneg _
  have hy0 : (0 : Int) ≤ (y : Int) := Int.natCast_nonneg _
  have hy1 : (y : Int) < 256 := by omega
  have hs0 : (0 : Int) ≤ (s : Int) := Int.natCast_nonneg _
  have hs1 : (s : Int) ≤ 7 := by omega
  have k5 : (y : Int) % 2 = (bitN d i : Int) := by omega
  have hx := d[q].toNat_lt
  have hx1 : (d[q].toNat : Int) < 256 := by omega
  obtain ⟨v, hv⟩ : ∃ v, bitN d i = v := ⟨_, rfl⟩
  rw [hv] at k5 ⊢
  clear hb hv hy hs hi hd hx
  go_enter Tryz.func207, Tryz.ntmps207
  go_wp2_with fail
  go_ret
  exact ⟨ret_int k5, rfl⟩
end Go.Proofs.YtlmhphejgahfbaaGreatDoor
