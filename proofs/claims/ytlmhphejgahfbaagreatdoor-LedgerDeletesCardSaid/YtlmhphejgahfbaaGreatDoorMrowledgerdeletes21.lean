/- Texts of this claim, one behind the other: Store3, Store3o, Tx4. -/
import Derived.Test.YtlmhphejgahfbaaGreatDoorMrowledgerdeletes18
import Derived.Test.YtlmhphejgahfbaaGreatDoorMrowledgerdeletes7
import Derived.Laws.OwnMore
import Derived.Test.YtlmhphejgahfbaaGreatDoorMrowledgerdeletes19
import Derived.Test.YtlmhphejgahfbaaGreatDoorMrowledgerdeletes20
/- Layer 13 (store): Scan. -/
set_option linter.unusedVariables false
set_option linter.unusedSimpArgs false
namespace Go.Proofs.YtlmhphejgahfbaaGreatDoor
open Go.RowKit

theorem info_item : (Tryz.prog.info? 131).map (fun i => (i.zero, i.size, i.bytes)) = some (some (.agg #[.string ⟨#[]⟩, .slice none 0 0]), 2, 40) := by kernel_rfl
theorem str_at {w : World} {F : Nat → Prop} {A : Option Addr} {ks : List ByteArray} (h : Rd Ty.str w F A ks) {i : Nat} (hi : i < ks.length) : ∃ ad, A = some ad ∧ w.cell? (ad.add i) = some (.string ks[i]) := by
  obtain ⟨ad, c, e, hk, e0, _⟩ := h.get' hi (by decide)
  obtain rfl : c = _ := hk
  have := e0 _ rfl
  rw [show Ty.str.sz = 1 from rfl, Nat.mul_one] at this
  exact ⟨ad, e, this⟩

theorem size_isEmpty (b : ByteArray) : b.toList.isEmpty = decide (b.size = 0) := by
  have h : b.size = b.toList.length := by rw [toList_data, Array.length_toList]; rfl
  rw [h]
  cases b.toList <;> simp

/-- What the loop holds at a round's head: k keys were seen. -/
structure ScanInv (w w1 : World) (s : Sto) (a : Int) (lo hi : ByteArray) (most : Int) (k n : Nat) (v : Value) (wr : World) : Prop where
  le : k ≤ s.kc.length
  len : n = ((s.kc.take k).filterMap (Sto.sel a lo hi)).length
  own : Ow tItem 131 wr (fun i => w1.heap.size ≤ i) v ((s.kc.take k).filterMap (Sto.sel a lo hi))
  most : (((s.kc.take k).filterMap (Sto.sel a lo hi)).length : Int) ≤ max most 0
  fr : Fr No w1 wr

theorem ScanInv.skip {w w1 : World} {s : Sto} {a : Int} {lo hi : ByteArray} {most : Int} {k n : Nat} {v : Value} {wr wr' : World} (I : ScanInv w w1 s a lo hi most k n v wr) {q : ByteArray × Chn} (hk : k < s.kc.length)
    (hs : (s.kc.take (k + 1)).filterMap (Sto.sel a lo hi) = (s.kc.take k).filterMap (Sto.sel a lo hi) ++ (Sto.sel a lo hi q).toList) (hn : Sto.sel a lo hi q = none) (f : Fr No wr wr') : ScanInv w w1 s a lo hi most (k + 1) n v wr' := by
  rw [hn] at hs
  have e : (s.kc.take (k + 1)).filterMap (Sto.sel a lo hi) = (s.kc.take k).filterMap (Sto.sel a lo hi) := by simpa using hs
  exact ⟨hk, by rw [e]; exact I.len, by rw [e]; exact I.own.fr0 f, by rw [e]; exact I.most, I.fr.trans (f.mono fun _ _ f => f.elim)⟩

theorem ScanInv.add {w w1 : World} {s : Sto} {a : Int} {lo hi : ByteArray} {most : Int} {k n : Nat} {v : Value} {wr w' : World} (I : ScanInv w w1 s a lo hi most k n v wr) {q : ByteArray × Chn} {x : Item} {A : Option Addr} {c : Nat} (hk : k < s.kc.length)
    (hs : (s.kc.take (k + 1)).filterMap (Sto.sel a lo hi) = (s.kc.take k).filterMap (Sto.sel a lo hi) ++ (Sto.sel a lo hi q).toList) (hn : Sto.sel a lo hi q = some x) (hm : (n : Int) < most) (hf : Fr No w1 w')
    (ho : Ow tItem 131 w' (fun i => w1.heap.size ≤ i) (.slice A (n + 1) c) ((s.kc.take k).filterMap (Sto.sel a lo hi) ++ [x])) : ScanInv w w1 s a lo hi most (k + 1) (n + 1) (.slice A (n + 1) c) w' := by
  rw [hn] at hs
  have e : (s.kc.take (k + 1)).filterMap (Sto.sel a lo hi) = (s.kc.take k).filterMap (Sto.sel a lo hi) ++ [x] := hs
  have hl := I.len
  exact ⟨hk, by rw [e]; simp; omega, by rw [e]; exact ho, by rw [e]; simp; omega, hf⟩

set_option maxHeartbeats 2000000 in
theorem store_scan {w : World} {F : Nat → Prop} {sb : Nat} {s : Sto} {m : Nat} (h : StoreAt w F sb s) (hs : s.Small m) (hm : m ≤ 100000000) (a : Int) (lo hi : ByteArray) (most : Int) :
    Calls Tryz.prog 120 #[.pointer (some ⟨sb, 0, none⟩), .int .i64 a, .string lo, .string hi, .int .i64 most] w fun e w' =>
      ∃ A c, e = .returned (.slice A (s.scan a lo hi most).length c) ∧ Ow tItem 131 w' (fun i => w.heap.size ≤ i) (.slice A (s.scan a lo hi most).length c) (s.scan a lo hi most) ∧ Fr No w w' := by
  have hk := store_keys h hs hm
  have hkl : (s.kc.length : Int) ≤ 100000000 := by have := hs.keys; omega
  have HH := Lib.hid (And.intro hk (And.intro h (And.intro hs hm)))
  clear hk h hs hm
  have fin : ∀ (w1 wr : World) (k n : Nat) (A2 : Option Addr) (c2 : Nat), Fr No w w1 → ScanInv w w1 s a lo hi most k n (.slice A2 n c2) wr → s.scan a lo hi most = (s.kc.take k).filterMap (Sto.sel a lo hi) →
      ∃ A c, Ending.returned (.slice A2 n c2) = .returned (.slice A (s.scan a lo hi most).length c) ∧ Ow tItem 131 wr (fun i => w.heap.size ≤ i) (.slice A (s.scan a lo hi most).length c) (s.scan a lo hi most) ∧ Fr No w wr := by
    intro w1 wr k n A2 c2 hf I e
    have := I.own
    rw [e]
    obtain rfl := I.len
    exact ⟨A2, c2, rfl, this.mono (fun i hi _ => by have := hf.size; omega), hf.trans (I.fr.mono fun _ _ f => f.elim)⟩
  have FIN := Lib.hid fin
  clear fin
  go_enter Tryz.func120, Tryz.ntmps120
  go_wp2_with (go_at_call 150; refine HH.out.1.mono ?_; rintro e w1 ⟨A, c, rfl, hr, hc, hf1⟩; have HR := Lib.hid (And.intro hr hf1); clear hr hf1)
  go_loopw [11, 19] (fun v i wr => ∃ (k n : Nat) (A2 : Option Addr) (c2 : Nat), v = .slice A2 n c2 ∧ i = .int .i64 k ∧ Hid (ScanInv w w1 s a lo hi most k n (.slice A2 n c2) wr)) (fun _ i _ => s.kc.length - (intOf i).toNat)
  case atStart => exact ⟨0, 0, none, 0, rfl, rfl, ⟨Nat.zero_le _, rfl, Ow.nil, by simp; omega, Fr.refl _ _⟩⟩
  case round =>
    obtain ⟨k, n, A2, c2, rfl, rfl, I⟩ := hrel
    by_cases hlt : k < s.kc.length
    · obtain ⟨ad, rfl, x0⟩ := str_at (HR.out.1.fr0 I.out.fr) (i := k) (by simpa using hlt)
      have hwr : Fr No w wr := HR.out.2.trans (I.out.fr.mono fun _ _ f => f.elim)
      have hget := store_get (HH.out.2.1.fr0 hwr) HH.out.2.2.1 HH.out.2.2.2 a s.kc[k].1
      have hlook : s.get a s.kc[k].1 = s.kc[k].2.get a := sto_get_some (look_of_mem HH.out.2.1.rising.nodup (List.getElem_mem hlt)) a
      rw [hlook] at hget
      have hsel := Sto.sel_step (a := a) (lo := lo) (hi := hi) hlt
      have hstop2 := Sto.scan_stop2 (a := a) (lo := lo) (hi := hi) (most := most) HH.out.2.1.rising hlt
      rw [List.getElem_map] at x0
      obtain ⟨q, hq⟩ : ∃ q, s.kc[k] = q := ⟨_, rfl⟩
      rw [hq] at x0 hget hsel hstop2
      have HG := Lib.hid (And.intro hget (And.intro hsel (And.intro hstop2 hwr)))
      clear hget hsel hstop2 hlook hq hwr
      have hk0 : (0 : Int) ≤ (k : Int) := Int.natCast_nonneg _
      have hk1 : (k : Int) < (s.kc.length : Int) := by omega
      by_cases h1 : most ≤ (n : Int)
      · go_wp2
        go_ret
        exact FIN.out w1 wr k n A2 c2 HR.out.2 I.out (Sto.scan_stop1 (by rw [← I.out.len]; exact h1) I.out.most)
      · cases h2 : hi.toList.isEmpty <;> cases h3 : Op.bytesLess q.1.toList hi.toList
        case false.false =>
          go_wp2
          go_ret
          exact FIN.out w1 wr k n A2 c2 HR.out.2 I.out (HG.out.2.2.1 (by rw [size_isEmpty] at h2; simpa using h2) h3 I.out.most)
        all_goals
          have hpass : Hid (hi.size = 0 ∨ kl q.1 hi = true) := by first | exact .inr h3 | exact .inl (by rw [size_isEmpty] at h2; simpa using h2)
          cases hr : q.2.get a with
          | none =>
            have hsel : Sto.sel a lo hi q = none := by unfold Sto.sel; rw [hr]
            have HS := Lib.hid hsel
            clear hsel
            rw [hr] at HG
            clear hr
            go_wp2_with (go_at_call 117; refine HG.out.1.mono ?_; rintro e w2 ⟨⟨A1, c1, rfl, ho1⟩, hf2⟩; have HO1 := Lib.hid ho1; clear ho1)
            go_roundw
            case rel => exact ⟨k + 1, n, A2, c2, rfl, by go_num, I.out.skip hlt HG.out.2.1 HS.out hf2⟩
            case measure => simp [intOf]; omega
          | some row =>
            rw [hr] at HG
            cases h4 : Op.bytesLess q.1.toList lo.toList
            · have hsel : Sto.sel a lo hi q = some (q.1, row) := by unfold Sto.sel; rw [hr]; exact if_pos ⟨h4, hpass.out⟩
              have HS := Lib.hid hsel
              clear hsel hr
              go_wp2_with (first
                | (go_at_call 117; refine HG.out.1.mono ?_; rintro e w2 ⟨⟨A1, c1, rfl, ho1⟩, hf2⟩; have HO1 := Lib.hid ho1; clear ho1)
                | (at_builtin; refine ow_append tItem (ys := [(q.1, row)]) ((I.out.own.fr0 hf2).fr0 ((Fr.refl No w2).alloc _)) _ _ _ 40 rfl rfl Tryz.underlying128 info_item rfl (by decide) (by decide) rfl rfl rfl
                    (Row.single (tItem_mk (A := A1) (c := c1) HO1.out.rd.2.1 ((HO1.out.rd.2.2.fr0 ((Fr.refl No w2).alloc _)).mono fun i hi hl => ?qf))) (At.block (heap_alloc_new _ _)) ?ql ?_
                   case qf => exact ⟨by have := I.out.fr.size; have hi' : wr.heap.size ≤ i := hi; omega, fun he => by have := (I.out.own.own he).2; have hi' : wr.heap.size ≤ i := hi; omega⟩
                   case ql => have := I.out.len; have := List.length_filterMap_le (Sto.sel a lo hi) (s.kc.take k); have := List.length_take_le k s.kc; simp; omega
                   intro A3 c3 w3 hown3 hg3 hat3
                   have hw3 : Fr No w1 w3 := (((I.out.fr.trans (hf2.mono fun _ _ f => f.elim)).alloc _).grown hg3 fun i hi => .inr (I.out.own.own hi).1)
                   have hown4 : Ow tItem 131 w3 (fun i => w1.heap.size ≤ i) (.slice A3 (n + 1) c3) ((s.kc.take k).filterMap (Sto.sel a lo hi) ++ [(q.1, row)]) := by
                     have h5 := hown3
                     rw [← I.out.len] at h5
                     exact h5.mono fun i hi _ => by have := I.out.fr.size; have := hf2.size; simp at hi; omega
                   have hlen3 : ((s.kc.take k).filterMap (Sto.sel a lo hi)).length + [(q.1, row)].length = n + 1 := by rw [← I.out.len]; rfl
                   rw [hlen3]
                   have H3 := Lib.hid (And.intro hw3 hown4)
                   clear hw3 hown4 hown3 hg3 hat3 hlen3))
              go_roundw
              case rel => exact ⟨k + 1, n + 1, A3, c3, rfl, by go_num, I.out.add hlt HG.out.2.1 HS.out (by omega) H3.out.1 H3.out.2⟩
              case measure => simp [intOf]; omega
            · have hsel : Sto.sel a lo hi q = none := by unfold Sto.sel; rw [hr]; exact if_neg (by show ¬ (kl q.1 lo = false ∧ _); rw [show kl q.1 lo = true from h4]; simp)
              have HS := Lib.hid hsel
              clear hsel hr
              go_wp2_with (go_at_call 117; refine HG.out.1.mono ?_; rintro e w2 ⟨⟨A1, c1, rfl, ho1⟩, hf2⟩; have HO1 := Lib.hid ho1; clear ho1)
              go_roundw
              case rel => exact ⟨k + 1, n, A2, c2, rfl, by go_num, I.out.skip hlt HG.out.2.1 HS.out hf2⟩
              case measure => simp [intOf]; omega
    · obtain rfl : k = s.kc.length := by have := I.out.le; omega
      go_wp2
      go_ret
      have e := I.out.most
      rw [List.take_length] at e
      exact FIN.out w1 wr _ n A2 c2 HR.out.2 I.out (by rw [List.take_length]; exact Sto.scan_end e)
end Go.Proofs.YtlmhphejgahfbaaGreatDoor
/- Layer 13 (store): Scan, whose rows may be written over; slices that are written over. -/
set_option linter.unusedVariables false
set_option linter.unusedSimpArgs false
namespace Go.Proofs.YtlmhphejgahfbaaGreatDoor
open Go.RowKit

/-- A slice of one's own, in a cell. -/
def Ty.own {α : Type} (t : Ty α) (e : TypeId) : Ty (List α) where
  sz := 1
  K := fun w F xs cs => ∃ A c, cs = [.slice A xs.length c] ∧ Ow t e w F (.slice A xs.length c) xs
  len := by rintro _ _ _ _ ⟨_, _, rfl, _⟩; rfl
  one := by rintro _ _ _ _ ⟨_, _, rfl, _⟩ u hu; simp at hu; subst hu; rfl
  stab := by rintro _ _ _ _ _ ⟨A, c, rfl, h⟩ k; exact ⟨A, c, rfl, h.stab k⟩
  mono := by rintro _ _ _ _ _ ⟨A, c, rfl, h⟩ k; exact ⟨A, c, rfl, h.mono k⟩
def tItemO : Ty Item := Ty.pair Ty.str (Ty.own Ty.u8 5)
theorem tItemO_open {w : World} {F : Nat → Prop} {x : Item} {cs : List Value} (h : tItemO.K w F x cs) : ∃ A c, cs = [.string x.1, .slice A x.2.length c] ∧ Ow Ty.u8 5 w F (.slice A x.2.length c) x.2 := by
  obtain ⟨_, _, rfl, rfl, A, c, rfl, h⟩ := h
  exact ⟨A, c, rfl, h⟩
theorem tItemO_mk {w : World} {F : Nat → Prop} {a : ByteArray} {r : Bs} {A : Option Addr} {c : Nat} (h : Ow Ty.u8 5 w F (.slice A r.length c) r) : tItemO.K w F (a, r) [.string a, .slice A r.length c] :=
  ⟨[_], [_], rfl, rfl, A, c, rfl, h⟩

theorem row_u8 {w : World} {F : Nat → Prop} {xs : Bs} {cs : List Value} (h : Row Ty.u8 w F xs cs) : cs = xs.map fun x => .int .u8 (x.toNat : Int) := by
  induction xs generalizing cs with
  | nil => exact h
  | cons x xs ih => obtain ⟨c, d, rfl, rfl, h2⟩ := h; rw [ih h2]; rfl
theorem row_u8_mk {w : World} {F : Nat → Prop} (xs : Bs) : Row Ty.u8 w F xs (xs.map fun x => .int .u8 (x.toNat : Int)) := by
  induction xs with
  | nil => rfl
  | cons x xs ih => exact ⟨_, _, rfl, rfl, ih⟩
/-- One's own bytes, of which one is written over. -/
theorem ow_u8 {w : World} {F : Nat → Prop} {A : Option Addr} {n c : Nat} {xs : Bs} (h : Ow Ty.u8 5 w F (.slice A n c) xs) {i : Nat} (hi : i < xs.length) :
    ∃ g, A = some ⟨g, 0, none⟩ ∧ F g ∧ g < w.heap.size ∧ (∃ u, w.cell? ⟨g, i, none⟩ = some u) ∧ w.frozen? ⟨g, i, none⟩ = false ∧ ∀ b : UInt8, Ow Ty.u8 5 (w.setCell ⟨g, i, none⟩ (.int .u8 (b.toNat : Int))) F (.slice A n c) (xs.set i b) := by
  obtain rfl := h.rd.1
  obtain ⟨cs, h1, h2, h3⟩ := h
  rcases h1.2 with ⟨h4, h5⟩ | ⟨g, cap, cur, h4, hb, hg, r⟩
  · omega
  · injection h4 with h5 h6 h7
    subst h5
    subst h7
    have hcs := row_u8 h2
    have hlt : i < xs.length * Ty.u8.sz := by show i < xs.length * 1; omega
    refine ⟨g, rfl, h3 g rfl, blk_lt hg, ⟨_, (h1.cellAt i hlt).trans (by rw [hcs, List.getElem?_map, List.getElem?_eq_getElem hi]; rfl)⟩, h1.frozenAt i, fun b => ?_⟩
    have hst := h1.stored i (.int .u8 (b.toNat : Int))
    refine ⟨cs.set i (.int .u8 (b.toNat : Int)), by rw [List.length_set]; exact hst.1, ?_, h3⟩
    have : cs.set i (.int .u8 (b.toNat : Int)) = (xs.set i b).map fun x => .int .u8 (x.toNat : Int) := by rw [hcs, List.map_set]
    rw [this]
    exact row_u8_mk _

/-- What the loop holds at a round's head: k keys were seen. -/
structure ScanInvO (w w1 : World) (s : Sto) (a : Int) (lo hi : ByteArray) (most : Int) (k n : Nat) (v : Value) (wr : World) : Prop where
  le : k ≤ s.kc.length
  len : n = ((s.kc.take k).filterMap (Sto.sel a lo hi)).length
  own : Ow tItemO 131 wr (fun i => w1.heap.size ≤ i) v ((s.kc.take k).filterMap (Sto.sel a lo hi))
  most : (((s.kc.take k).filterMap (Sto.sel a lo hi)).length : Int) ≤ max most 0
  fr : Fr No w1 wr

theorem ScanInvO.skip {w w1 : World} {s : Sto} {a : Int} {lo hi : ByteArray} {most : Int} {k n : Nat} {v : Value} {wr wr' : World} (I : ScanInvO w w1 s a lo hi most k n v wr) {q : ByteArray × Chn} (hk : k < s.kc.length)
    (hs : (s.kc.take (k + 1)).filterMap (Sto.sel a lo hi) = (s.kc.take k).filterMap (Sto.sel a lo hi) ++ (Sto.sel a lo hi q).toList) (hn : Sto.sel a lo hi q = none) (f : Fr No wr wr') : ScanInvO w w1 s a lo hi most (k + 1) n v wr' := by
  rw [hn] at hs
  have e : (s.kc.take (k + 1)).filterMap (Sto.sel a lo hi) = (s.kc.take k).filterMap (Sto.sel a lo hi) := by simpa using hs
  exact ⟨hk, by rw [e]; exact I.len, by rw [e]; exact I.own.fr0 f, by rw [e]; exact I.most, I.fr.trans (f.mono fun _ _ f => f.elim)⟩

theorem ScanInvO.add {w w1 : World} {s : Sto} {a : Int} {lo hi : ByteArray} {most : Int} {k n : Nat} {v : Value} {wr w' : World} (I : ScanInvO w w1 s a lo hi most k n v wr) {q : ByteArray × Chn} {x : Item} {A : Option Addr} {c : Nat} (hk : k < s.kc.length)
    (hs : (s.kc.take (k + 1)).filterMap (Sto.sel a lo hi) = (s.kc.take k).filterMap (Sto.sel a lo hi) ++ (Sto.sel a lo hi q).toList) (hn : Sto.sel a lo hi q = some x) (hm : (n : Int) < most) (hf : Fr No w1 w')
    (ho : Ow tItemO 131 w' (fun i => w1.heap.size ≤ i) (.slice A (n + 1) c) ((s.kc.take k).filterMap (Sto.sel a lo hi) ++ [x])) : ScanInvO w w1 s a lo hi most (k + 1) (n + 1) (.slice A (n + 1) c) w' := by
  rw [hn] at hs
  have e : (s.kc.take (k + 1)).filterMap (Sto.sel a lo hi) = (s.kc.take k).filterMap (Sto.sel a lo hi) ++ [x] := hs
  have hl := I.len
  exact ⟨hk, by rw [e]; simp; omega, by rw [e]; exact ho, by rw [e]; simp; omega, hf⟩

set_option maxHeartbeats 2000000 in
theorem store_scan_own {w : World} {F : Nat → Prop} {sb : Nat} {s : Sto} {m : Nat} (h : StoreAt w F sb s) (hs : s.Small m) (hm : m ≤ 100000000) (a : Int) (lo hi : ByteArray) (most : Int) :
    Calls Tryz.prog 120 #[.pointer (some ⟨sb, 0, none⟩), .int .i64 a, .string lo, .string hi, .int .i64 most] w fun e w' =>
      ∃ A c, e = .returned (.slice A (s.scan a lo hi most).length c) ∧ Ow tItemO 131 w' (fun i => w.heap.size ≤ i) (.slice A (s.scan a lo hi most).length c) (s.scan a lo hi most) ∧ Fr No w w' := by
  have hk := store_keys h hs hm
  have hkl : (s.kc.length : Int) ≤ 100000000 := by have := hs.keys; omega
  have HH := Lib.hid (And.intro hk (And.intro h (And.intro hs hm)))
  clear hk h hs hm
  have fin : ∀ (w1 wr : World) (k n : Nat) (A2 : Option Addr) (c2 : Nat), Fr No w w1 → ScanInvO w w1 s a lo hi most k n (.slice A2 n c2) wr → s.scan a lo hi most = (s.kc.take k).filterMap (Sto.sel a lo hi) →
      ∃ A c, Ending.returned (.slice A2 n c2) = .returned (.slice A (s.scan a lo hi most).length c) ∧ Ow tItemO 131 wr (fun i => w.heap.size ≤ i) (.slice A (s.scan a lo hi most).length c) (s.scan a lo hi most) ∧ Fr No w wr := by
    intro w1 wr k n A2 c2 hf I e
    have := I.own
    rw [e]
    obtain rfl := I.len
    exact ⟨A2, c2, rfl, this.mono (fun i hi _ => by have := hf.size; omega), hf.trans (I.fr.mono fun _ _ f => f.elim)⟩
  have FIN := Lib.hid fin
  clear fin
  go_enter Tryz.func120, Tryz.ntmps120
  go_wp2_with (go_at_call 150; refine HH.out.1.mono ?_; rintro e w1 ⟨A, c, rfl, hr, hc, hf1⟩; have HR := Lib.hid (And.intro hr hf1); clear hr hf1)
  go_loopw [11, 19] (fun v i wr => ∃ (k n : Nat) (A2 : Option Addr) (c2 : Nat), v = .slice A2 n c2 ∧ i = .int .i64 k ∧ Hid (ScanInvO w w1 s a lo hi most k n (.slice A2 n c2) wr)) (fun _ i _ => s.kc.length - (intOf i).toNat)
  case atStart => exact ⟨0, 0, none, 0, rfl, rfl, ⟨Nat.zero_le _, rfl, Ow.nil, by simp; omega, Fr.refl _ _⟩⟩
  case round =>
    obtain ⟨k, n, A2, c2, rfl, rfl, I⟩ := hrel
    by_cases hlt : k < s.kc.length
    · obtain ⟨ad, rfl, x0⟩ := str_at (HR.out.1.fr0 I.out.fr) (i := k) (by simpa using hlt)
      have hwr : Fr No w wr := HR.out.2.trans (I.out.fr.mono fun _ _ f => f.elim)
      have hget := store_get (HH.out.2.1.fr0 hwr) HH.out.2.2.1 HH.out.2.2.2 a s.kc[k].1
      have hlook : s.get a s.kc[k].1 = s.kc[k].2.get a := sto_get_some (look_of_mem HH.out.2.1.rising.nodup (List.getElem_mem hlt)) a
      rw [hlook] at hget
      have hsel := Sto.sel_step (a := a) (lo := lo) (hi := hi) hlt
      have hstop2 := Sto.scan_stop2 (a := a) (lo := lo) (hi := hi) (most := most) HH.out.2.1.rising hlt
      rw [List.getElem_map] at x0
      obtain ⟨q, hq⟩ : ∃ q, s.kc[k] = q := ⟨_, rfl⟩
      rw [hq] at x0 hget hsel hstop2
      have HG := Lib.hid (And.intro hget (And.intro hsel (And.intro hstop2 hwr)))
      clear hget hsel hstop2 hlook hq hwr
      have hk0 : (0 : Int) ≤ (k : Int) := Int.natCast_nonneg _
      have hk1 : (k : Int) < (s.kc.length : Int) := by omega
      by_cases h1 : most ≤ (n : Int)
      · go_wp2
        go_ret
        exact FIN.out w1 wr k n A2 c2 HR.out.2 I.out (Sto.scan_stop1 (by rw [← I.out.len]; exact h1) I.out.most)
      · cases h2 : hi.toList.isEmpty <;> cases h3 : Op.bytesLess q.1.toList hi.toList
        case false.false =>
          go_wp2
          go_ret
          exact FIN.out w1 wr k n A2 c2 HR.out.2 I.out (HG.out.2.2.1 (by rw [size_isEmpty] at h2; simpa using h2) h3 I.out.most)
        all_goals
          have hpass : Hid (hi.size = 0 ∨ kl q.1 hi = true) := by first | exact .inr h3 | exact .inl (by rw [size_isEmpty] at h2; simpa using h2)
          cases hr : q.2.get a with
          | none =>
            have hsel : Sto.sel a lo hi q = none := by unfold Sto.sel; rw [hr]
            have HS := Lib.hid hsel
            clear hsel
            rw [hr] at HG
            clear hr
            go_wp2_with (go_at_call 117; refine HG.out.1.mono ?_; rintro e w2 ⟨⟨A1, c1, rfl, ho1⟩, hf2⟩; have HO1 := Lib.hid ho1; clear ho1)
            go_roundw
            case rel => exact ⟨k + 1, n, A2, c2, rfl, by go_num, I.out.skip hlt HG.out.2.1 HS.out hf2⟩
            case measure => simp [intOf]; omega
          | some row =>
            rw [hr] at HG
            cases h4 : Op.bytesLess q.1.toList lo.toList
            · have hsel : Sto.sel a lo hi q = some (q.1, row) := by unfold Sto.sel; rw [hr]; exact if_pos ⟨h4, hpass.out⟩
              have HS := Lib.hid hsel
              clear hsel hr
              go_wp2_with (first
                | (go_at_call 117; refine HG.out.1.mono ?_; rintro e w2 ⟨⟨A1, c1, rfl, ho1⟩, hf2⟩; have HO1 := Lib.hid ho1; clear ho1)
                | (at_builtin; refine ow_append tItemO (ys := [(q.1, row)]) ((I.out.own.fr0 hf2).fr0 ((Fr.refl No w2).alloc _)) _ _ _ 40 rfl rfl Tryz.underlying128 info_item rfl (by decide) (by decide) rfl rfl rfl
                    (Row.single (tItemO_mk (A := A1) (c := c1) ((HO1.out.fr0 ((Fr.refl No w2).alloc _)).mono fun i hi hl => ?qf))) (At.block (heap_alloc_new _ _)) ?ql ?_
                   case qf => exact ⟨by have := I.out.fr.size; have hi' : wr.heap.size ≤ i := hi; omega, fun he => by have := (I.out.own.own he).2; have hi' : wr.heap.size ≤ i := hi; omega⟩
                   case ql => have := I.out.len; have := List.length_filterMap_le (Sto.sel a lo hi) (s.kc.take k); have := List.length_take_le k s.kc; simp; omega
                   intro A3 c3 w3 hown3 hg3 hat3
                   have hw3 : Fr No w1 w3 := (((I.out.fr.trans (hf2.mono fun _ _ f => f.elim)).alloc _).grown hg3 fun i hi => .inr (I.out.own.own hi).1)
                   have hown4 : Ow tItemO 131 w3 (fun i => w1.heap.size ≤ i) (.slice A3 (n + 1) c3) ((s.kc.take k).filterMap (Sto.sel a lo hi) ++ [(q.1, row)]) := by
                     have h5 := hown3
                     rw [← I.out.len] at h5
                     exact h5.mono fun i hi _ => by have := I.out.fr.size; have := hf2.size; simp at hi; omega
                   have hlen3 : ((s.kc.take k).filterMap (Sto.sel a lo hi)).length + [(q.1, row)].length = n + 1 := by rw [← I.out.len]; rfl
                   rw [hlen3]
                   have H3 := Lib.hid (And.intro hw3 hown4)
                   clear hw3 hown4 hown3 hg3 hat3 hlen3))
              go_roundw
              case rel => exact ⟨k + 1, n + 1, A3, c3, rfl, by go_num, I.out.add hlt HG.out.2.1 HS.out (by omega) H3.out.1 H3.out.2⟩
              case measure => simp [intOf]; omega
            · have hsel : Sto.sel a lo hi q = none := by unfold Sto.sel; rw [hr]; exact if_neg (by show ¬ (kl q.1 lo = false ∧ _); rw [show kl q.1 lo = true from h4]; simp)
              have HS := Lib.hid hsel
              clear hsel hr
              go_wp2_with (go_at_call 117; refine HG.out.1.mono ?_; rintro e w2 ⟨⟨A1, c1, rfl, ho1⟩, hf2⟩; have HO1 := Lib.hid ho1; clear ho1)
              go_roundw
              case rel => exact ⟨k + 1, n, A2, c2, rfl, by go_num, I.out.skip hlt HG.out.2.1 HS.out hf2⟩
              case measure => simp [intOf]; omega
    · obtain rfl : k = s.kc.length := by have := I.out.le; omega
      go_wp2
      go_ret
      have e := I.out.most
      rw [List.take_length] at e
      exact FIN.out w1 wr _ n A2 c2 HR.out.2 I.out (by rw [List.take_length]; exact Sto.scan_end e)
end Go.Proofs.YtlmhphejgahfbaaGreatDoor
/- Layer 14 (tx): Writes. -/
set_option linter.unusedVariables false
set_option linter.unusedSimpArgs false
namespace Go.Proofs.YtlmhphejgahfbaaGreatDoor
open Go.RowKit

/-- A write whose row is one's own. -/
def tWrO : Ty Wr := Ty.iso (Ty.pair Ty.str (Ty.pair (Ty.own Ty.u8 5) Ty.bool)) fun x => (x.key, x.row, x.gone)
theorem tWrO_open {w : World} {F : Nat → Prop} {x : Wr} {cs : List Value} (h : tWrO.K w F x cs) :
    ∃ A c, cs = [.string x.key, .slice A x.row.length c, .bool x.gone] ∧ Ow Ty.u8 5 w F (.slice A x.row.length c) x.row := by
  obtain ⟨_, _, rfl, rfl, _, _, rfl, ⟨A, c, rfl, h1⟩, rfl⟩ := h
  exact ⟨A, c, rfl, h1⟩
theorem tWrO_mk {w : World} {F : Nat → Prop} {a : ByteArray} {r : Bs} {g : Bool} {A : Option Addr} {c : Nat} (h : Ow Ty.u8 5 w F (.slice A r.length c) r) :
    tWrO.K w F ⟨a, r, g⟩ [.string a, .slice A r.length c, .bool g] :=
  ⟨[_], [_, _], rfl, rfl, [_], [_], rfl, ⟨A, c, rfl, h⟩, rfl⟩
theorem info_wrv : (Tryz.prog.info? 117).map (fun i => (i.zero, i.size, i.bytes)) = some (some (.agg #[.string ⟨#[]⟩, .slice none 0 0, .bool false]), 3, 48) := by kernel_rfl
theorem wfind_at {ws : List Wr} (hr : Rising (ws.map Wr.key)) {i : Nat} (hi : i < ws.length) : wfind ws[i].key ws = some ws[i] := by
  cases hf : wfind ws[i].key ws with
  | none => exact absurd (List.mem_map_of_mem (List.getElem_mem hi)) (wfind_none.1 hf)
  | some y =>
    obtain ⟨hm, he⟩ := wfind_some hf
    obtain ⟨j, hj, rfl⟩ := List.getElem_of_mem hm
    have hn := hr.nodup
    have : j = i := by
      rcases Nat.lt_trichotomy j i with h | h | h
      · exact absurd he (by have := List.pairwise_iff_getElem.1 hn j i (by simpa using hj) (by simpa using hi) h; simpa using this)
      · exact h
      · exact absurd he.symm (by have := List.pairwise_iff_getElem.1 hn i j (by simpa using hi) (by simpa using hj) h; simpa using this)
    subst this
    rfl

theorem tx_writes_nil (w : World) : Calls Tryz.prog 74 #[.pointer none] w fun e w' => e = .returned (.slice none 0 0) ∧ w' = w := by
  go_enter Tryz.func74, Tryz.ntmps74
  go_wp2
  go_ret
  exact ⟨rfl, rfl⟩

set_option maxHeartbeats 2000000 in
set_option maxRecDepth 100000 in
theorem tx_writes {w : World} {F : Nat → Prop} {xb : Nat} {base : Int} {ws : List Wr} (h : TxAt w F xb base ws) (hl : ws.length ≤ 1000000) (hk : ∀ x ∈ ws, x.key.size ≤ 1000000000 ∧ x.row.length ≤ 1000000000) :
    Calls Tryz.prog 74 #[.pointer (some ⟨xb, 0, none⟩)] w fun e w' => ∃ A c, e = .returned (.slice A ws.length c) ∧ Ow tWrO 117 w' (fun i => w.heap.size ≤ i) (.slice A ws.length c) ws ∧ Fr No w w' := by
  obtain ⟨h1, mb, l, h2, h3, h4, h5, h6⟩ := h
  have hkeys := keysW_ok mb l (ws.map Wr.key) w h5 h6.rising h6.look_iff (fun k hk' => by
    obtain ⟨x, hx, rfl⟩ := List.mem_map.1 hk'
    have := (hk x hx).1
    unfold maxLen; omega) (by rw [List.length_map]; omega)
  have a1 := blk_cell h4 1
  simp at a1
  have hlI : (ws.length : Int) ≤ 1000000 := by omega
  have H := Lib.hid (And.intro hkeys (And.intro h4 (And.intro h5 (And.intro (h6.mono fun i hi hl => (⟨hi.1, hl⟩ : F i ∧ i < w.heap.size)) hk))))
  clear hkeys h1 h2 h3 h4 h5 h6 hk
  go_enter Tryz.func74, Tryz.ntmps74
  go_wp2_with fail
  refine H.out.1.1.mono ?_
  rintro e1 w1 ⟨rfl, rfl⟩
  go_wp2_with fail
  refine H.out.1.2.mono ?_
  rintro e2 w2 ⟨A, c, rfl, ho, hf2⟩
  rw [List.length_map] at ho ⊢
  have HO := Lib.hid (And.intro (ho.rd.2.2.mono fun i hi hl => (⟨hi, hl⟩ : w.heap.size ≤ i ∧ i < w2.heap.size)) hf2)
  clear ho hf2
  go_wp2_with fail
  go_loopw [3, 16] (fun v i wr => ∃ (k : Nat) (A3 : Option Addr) (c3 : Nat), k ≤ ws.length ∧ i = .int .i64 k ∧ v = .slice A3 k c3 ∧ Hid (Ow tWrO 117 wr (fun i => w2.heap.size ≤ i) (.slice A3 k c3) (ws.take k)) ∧ Hid (Fr No w2 wr)) (fun _ i _ => ws.length - (intOf i).toNat)
  case atStart => exact ⟨0, none, 0, Nat.zero_le _, rfl, rfl, by show Ow _ _ _ _ _ _; simpa using Ow.nil, Fr.refl _ _⟩
  case round =>
    obtain ⟨k, A3, c3, hk, rfl, rfl, hO, hf⟩ := hrel
    have hq0 : (0 : Int) ≤ (k : Int) := Int.natCast_nonneg _
    have hwr : Fr No w wr := HO.out.2.trans (hf.out.mono fun _ _ f => f.elim)
    have a1 := hwr.cell a1 (fun f => f)
    by_cases hlt : k < ws.length
    · have hq1 : (k : Int) < (ws.length : Int) := by omega
      obtain ⟨ad, rfl, x0⟩ := str_at (HO.out.1.fr0 hf.out) (i := k) (by simpa using hlt)
      rw [List.getElem_map] at x0
      obtain ⟨v, hv, A4, c4, rfl, hc4, hr4⟩ := H.out.2.2.2.1.some_ _ _ (wfind_at H.out.2.2.2.1.rising hlt)
      have hrow := (H.out.2.2.2.2 _ (List.getElem_mem hlt)).2
      have hrun := (run_map_look (P := Tryz.prog) (w := wr) (H.out.2.2.1.stab (hwr.block _ H.out.2.2.1.lt (fun f => f))) 171 _ _ Tryz.underlying171 Tryz.underlying9 _ (zero_wr wr) ws[k].key).1
      rw [hv] at hrun
      simp only [Option.getD_some] at hrun
      have htk : ws.take (k + 1) = ws.take k ++ [ws[k]] := List.take_succ_eq_append_getElem hlt
      have hlk : (ws.take k).length = k := by rw [List.length_take]; omega
      obtain ⟨x, hx⟩ : ∃ x, ws[k] = x := ⟨_, rfl⟩
      rw [hx] at x0 hc4 hr4 hrow hrun htk
      obtain ⟨W, hW⟩ : ∃ W, W = wr.alloc (.cells #[.string x.key, .slice A4 x.row.length c4, .bool x.gone] 117) := ⟨_, rfl⟩
      have hfW : Fr No wr W := by rw [hW]; exact (Fr.refl No wr).alloc _
      have hbW : W.heap[wr.heap.size]? = some (.cells #[.string x.key, .slice A4 x.row.length c4, .bool x.gone] 117 (0, 0)) := by rw [hW]; exact heap_alloc_new wr _
      have hcl := clone_ok (w := W) (c := c4) ((hr4.fr0 hwr).fr0 hfW) rfl (by omega)
      have HT := Lib.hid (And.intro htk (And.intro hlk (And.intro hcl (And.intro hbW (And.intro hfW hwr)))))
      clear htk hlk hcl hbW hfW hwr hc4 hr4 hrow hv hx
      go_wp2_with fail
      rw [← hW]
      clear hW
      refine HT.out.2.2.1.mono ?_
      rintro e5 w5 ⟨A5, c5, rfl, ho5, hf5⟩
      have hb5 := hf5.blk HT.out.2.2.2.1 (fun f => f)
      have k0 := blk_cell hb5 0
      have k1 := blk_cell hb5 1
      have k2 := blk_cell hb5 2
      have z1 := blk_frozen hb5 1
      simp at k0 k1 k2
      have hlt5 : wr.heap.size < w5.heap.size := blk_lt hb5
      have hwl : w2.heap.size ≤ wr.heap.size := hf.out.size
      have hWl : wr.heap.size < W.heap.size := blk_lt HT.out.2.2.2.1
      have hnw := heap_alloc_new (w5.setCell ⟨wr.heap.size, 1, none⟩ (.slice A5 x.row.length c5)) (.cells #[.string x.key, .slice A5 x.row.length c5, .bool x.gone] 117)
      rw [show (w5.setCell ⟨wr.heap.size, 1, none⟩ (.slice A5 x.row.length c5)).heap.size = w5.heap.size by simp [World.setCell]] at hnw
      have hs6 : ((w5.setCell ⟨wr.heap.size, 1, none⟩ (.slice A5 x.row.length c5)).alloc (.cells #[.string x.key, .slice A5 x.row.length c5, .bool x.gone] 117)).heap.size = w5.heap.size + 1 := by simp [World.setCell]
      have hO6 : Ow tWrO 117 ((w5.setCell ⟨wr.heap.size, 1, none⟩ (.slice A5 x.row.length c5)).alloc (.cells #[.string x.key, .slice A5 x.row.length c5, .bool x.gone] 117)) (fun i => w2.heap.size ≤ i ∧ i ≠ wr.heap.size) (.slice A3 k c3) (ws.take k) :=
        ((((hO.out.mono fun i hi hl => (⟨hi, by omega⟩ : w2.heap.size ≤ i ∧ i ≠ wr.heap.size)).fr0 HT.out.2.2.2.2.1).fr0 hf5).set ⟨wr.heap.size, 1, none⟩ (fun h => h.2 rfl) _).fr0 ((Fr.refl No _).alloc _)
      have hR6 : Ow Ty.u8 5 ((w5.setCell ⟨wr.heap.size, 1, none⟩ (.slice A5 x.row.length c5)).alloc (.cells #[.string x.key, .slice A5 x.row.length c5, .bool x.gone] 117)) (fun i => W.heap.size ≤ i) (.slice A5 x.row.length c5) x.row :=
        ((ho5).set ⟨wr.heap.size, 1, none⟩ (fun h => by have h' : W.heap.size ≤ wr.heap.size := h; omega) _).fr0 ((Fr.refl No _).alloc _)
      have hf6 : Fr No w2 ((w5.setCell ⟨wr.heap.size, 1, none⟩ (.slice A5 x.row.length c5)).alloc (.cells #[.string x.key, .slice A5 x.row.length c5, .bool x.gone] 117)) :=
        ((hf.out.trans ((HT.out.2.2.2.2.1.trans (hf5.mono fun _ _ f => f.elim)).mono fun _ _ f => f.elim)).set ⟨wr.heap.size, 1, none⟩ (.inr hwl) _).alloc _
      have hnb : ∀ j, (Value.slice A3 k c3).ownBlock = some j → w2.heap.size ≤ j ∧ j < wr.heap.size := fun j hj => hO.out.own hj
      have H5 := Lib.hid (And.intro hO6 (And.intro hR6 (And.intro hf6 (And.intro hnb (And.intro hnw (And.intro hs6 hf5.size))))))
      have hki : ((k : Int) + 1) * 48 ≤ 140737488355328 := by omega
      clear ho5 hf5 hb5 hnw hs6 hO6 hR6 hf6 hnb
      go_wp2_with (at_builtin; refine ow_append tWrO (ys := [x]) H5.out.1 _ _ (.agg #[.string ⟨#[]⟩, .slice none 0 0, .bool false]) 48 rfl rfl Tryz.underlying67 info_wrv rfl (by decide) (by decide) rfl rfl rfl (Row.single (tWrO_mk (a := x.key) (r := x.row) (g := x.gone) (A := A5) (c := c5) (H5.out.2.1.mono fun i hi hl => ?qf))) (At.block H5.out.2.2.2.2.1) ?ql ?_
                   case qf =>
                     have hi' : W.heap.size ≤ i := hi
                     exact ⟨⟨by omega, by omega⟩, fun he => by have := H5.out.2.2.2.1 i he; omega⟩
                   case ql => rw [HT.out.2.1]; simp; omega
                   intro A7 c7 w7 hown7 hg7 hat7
                   have hlen7 : (ws.take k).length + [x].length = k + 1 := by rw [HT.out.2.1]; rfl
                   rw [hlen7] at hown7 hat7 ⊢
                   have hown8 : Ow tWrO 117 w7 (fun i => w2.heap.size ≤ i) (.slice A7 (k + 1) c7) (ws.take k ++ [x]) := hown7.mono fun i hi _ => by
                     rcases hi with hi | hi
                     · exact hi.1
                     · have h1 := H5.out.2.2.2.2.2.1; have h2 := H5.out.2.2.2.2.2.2; rw [h1] at hi; show w2.heap.size ≤ i; omega
                   have hf8 : Fr No w2 w7 := H5.out.2.2.1.grown hg7 fun j hj => .inr (H5.out.2.2.2.1 j hj).1
                   have H8 := Lib.hid (And.intro hown8 hf8)
                   clear hown7 hg7 hat7 hown8 hf8 hlen7)
      go_roundw
      case rel => exact ⟨k + 1, A7, c7, by omega, by go_num, rfl, by rw [HT.out.1]; exact H8.out.1, H8.out.2⟩
      case measure => simp [intOf]; omega
    · obtain rfl : k = ws.length := by omega
      have hOe := hO.out
      rw [List.take_length] at hOe
      have HE := Lib.hid (And.intro hOe hwr)
      clear hOe hwr
      go_wp2_with fail
      go_ret
      exact ⟨_, _, rfl, HE.out.1.mono fun i hi _ => by have := HO.out.2.size; have hi' : w2.heap.size ≤ i := hi; show w.heap.size ≤ i; omega, HE.out.2⟩
end Go.Proofs.YtlmhphejgahfbaaGreatDoor
