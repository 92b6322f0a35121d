/- Texts of this claim, one behind the other: Tabs, Same. -/
import Derived.Test.YtlmhphejgahfbaaGreatDoorMrowledgerfirst7
import Derived.Test.YtlmhphejgahfbaaGreatDoorMrowledgerfirst8
import Derived.Test.YtlmhphejgahfbaaGreatDoorMrowledgerfirstKFit
import Derived.Test.YtlmhphejgahfbaaGreatDoorMrowledgerfirst25
/- Reference 5: Tables, of any forms. -/
set_option linter.unusedVariables false
set_option linter.unusedSimpArgs false
namespace Go.Proofs.YtlmhphejgahfbaaGreatDoor
open Go.RowKit

abbrev Frm := Bs × UInt8
abbrev tFrm : Ty Frm := Ty.pair (Ty.slice Ty.u8) Ty.u8
theorem frm_at {w : World} {F : Nat → Prop} {A : Option Addr} {l : List Frm} (h : Rd tFrm w F A l) {i : Nat} (hi : i < l.length) :
    ∃ ad R c, A = some ad ∧ w.cell? (ad.add (i * 2)) = some (.slice R l[i].1.length c) ∧ w.cell? ⟨(ad.add (i * 2)).block, (ad.add (i * 2)).off + 1, none⟩ = some (.int .u8 (l[i].2.toNat : Int)) ∧ l[i].1.length ≤ c ∧ Rd Ty.u8 w F R l[i].1 := by
  obtain ⟨ad, cs, e, hk, h0, h1⟩ := h.get' hi (by decide)
  obtain ⟨c1, c2, rfl, k1, k2⟩ := hk
  obtain ⟨R, c, rfl, hc, hr⟩ := k1
  obtain rfl : c2 = _ := k2
  exact ⟨ad, R, c, e, h0 _ rfl, h1 1 _ (by decide) rfl, hc, hr⟩

/-! ### Columns in cells -/
def colC (c : Col) : List Value := [.string c.1, .int .u8 (c.2.1.toNat : Int), .bool c.2.2]
theorem row_col {w : World} {F : Nat → Prop} {xs : List Col} {cs : List Value} : Row tCol w F xs cs ↔ cs = xs.flatMap colC := by
  induction xs generalizing cs with
  | nil => exact Iff.rfl
  | cons x xs ih =>
    constructor
    · rintro ⟨c, d, rfl, hk, hr⟩
      obtain ⟨c1, c2, rfl, k1, k2⟩ := hk
      obtain rfl : c1 = _ := k1
      obtain ⟨c3, c4, rfl, k3, k4⟩ := k2
      obtain rfl : c3 = _ := k3
      obtain rfl : c4 = _ := k4
      rw [ih.1 hr]
      rfl
    · rintro rfl
      exact ⟨colC x, xs.flatMap colC, rfl, ⟨[_], [_, _], rfl, rfl, [_], [_], rfl, rfl, rfl⟩, ih.2 rfl⟩
theorem col_set (xs : List Col) (k : Nat) (b : Bool) (hk : k < xs.length) : (xs.flatMap colC).set (k * 3 + 2) (.bool b) = (xs.set k (xs[k].1, xs[k].2.1, b)).flatMap colC := by
  induction xs generalizing k with
  | nil => cases hk
  | cons x xs ih =>
    cases k with
    | zero => rfl
    | succ k =>
      have := ih k (by simpa using hk)
      rw [List.set_cons_succ, List.flatMap_cons, List.flatMap_cons, List.getElem_cons_succ, ← this]
      show (colC x ++ _).set _ _ = _
      rw [show (k + 1) * 3 + 2 = (colC x).length + (k * 3 + 2) by show _ = 3 + _; omega, List.set_append_right _ _ (by omega), Nat.add_sub_cancel_left]
/-- An element's cell is written in place. -/
theorem Ow.store {α : Type} {t : Ty α} {e : TypeId} {w : World} {F : Nat → Prop} {g n c j : Nat} {u : Value} {xs xs' : List α} (h : Ow t e w F (.slice (some ⟨g, 0, none⟩) n c) xs) (hl : xs'.length = xs.length)
    (k : ∀ cs, Row t w (fun i => F i ∧ some g ≠ some i) xs cs → Row t (w.setCell ⟨g, j, none⟩ u) (fun i => F i ∧ some g ≠ some i) xs' (cs.set j u)) : Ow t e (w.setCell ⟨g, j, none⟩ u) F (.slice (some ⟨g, 0, none⟩) n c) xs' := by
  obtain ⟨cs, h1, h2, h3⟩ := h
  refine ⟨cs.set j u, ⟨by rw [List.length_set, hl]; exact h1.1, ?_⟩, k cs h2, h3⟩
  rcases h1.2 with ⟨h4, _⟩ | ⟨g', cap, cur, he, hb, hg, hn, hm, hs, ht⟩
  · cases h4
  · injection he with he1 he2 he3
    injection he1 with he1
    injection he1 with he1
    subst he1 he3
    refine .inr ⟨g, c, cur.setIfInBounds j u, by rw [hl, ← he2], hb, blk_set hg _ _, by rw [hl]; exact hn, hm, by simpa using hs, ?_⟩
    rw [hl, Array.toList_setIfInBounds, List.take_set, ht]

/-! ### What comes of a form -/
def wideF (f : Frm) : Nat := min f.1.length 8
def keysF (f : Frm) : Nat := 1 + f.2.toNat % max (wideF f) 1
def nameF (k : Nat) : ByteArray := one (UInt8.ofNat (97 + k))
def nullF (f : Frm) (k : Nat) : Bool := decide (2 ≤ (f.1.getD k 0).toNat % 4)
/-- Its columns, ahead of whether each may be nothing: the first ones are told. -/
def colsN (f : Frm) (ks : Nat) (j n : Nat) : List Col := (List.range n).map fun k => (nameF k, 1 + f.1.getD k 0 % 2, decide (ks ≤ k) && decide (k < j) && nullF f k)
def tabF (i : Nat) (f : Frm) : Tab := (two 116 (UInt8.ofNat (48 + i)), if f.1 = [] then [(one 97, 1, false)] else colsN f (keysF f) (wideF f) (wideF f), (keysF f : Int))
def tabsF (l : List Frm) : List Tab := (List.range (max 1 (min 4 l.length))).map fun i => tabF i (l.getD i ([], 0))

theorem tabsF_len (l : List Frm) : (tabsF l).length = max 1 (min 4 l.length) := by unfold tabsF; simp
theorem tabsF_get {l : List Frm} {i : Nat} (h : i < l.length) (h4 : i < 4) : (tabsF l)[i]? = some (tabF i l[i]) := by
  unfold tabsF
  rw [List.getElem?_map, List.getElem?_range (by omega)]
  rw [Option.map_some, List.getD_eq_getElem?_getD, List.getElem?_eq_getElem h]
  rfl
theorem keysF_eq (f : Frm) : keysF f = 1 + f.2.toNat % max (wideF f) 1 := rfl
theorem keysF_le (f : Frm) : 1 ≤ keysF f ∧ keysF f ≤ max (wideF f) 1 := by
  have := Nat.mod_lt f.2.toNat (show 0 < max (wideF f) 1 by omega)
  unfold keysF; omega
theorem colsN_len (f : Frm) (ks j n : Nat) : (colsN f ks j n).length = n := by unfold colsN; simp
theorem colsN_succ (f : Frm) (ks k : Nat) : colsN f ks 0 (k + 1) = colsN f ks 0 k ++ [(nameF k, 1 + f.1.getD k 0 % 2, false)] := by
  unfold colsN
  rw [List.range_succ, List.map_append]
  simp
theorem colsN_get {f : Frm} {ks j n i : Nat} (h : i < (colsN f ks j n).length) : (colsN f ks j n)[i] = (nameF i, 1 + f.1.getD i 0 % 2, decide (ks ≤ i) && decide (i < j) && nullF f i) := by
  simp [colsN]
theorem colsN_start (f : Frm) (ks ks' j n : Nat) (h : j ≤ ks') : colsN f ks 0 n = colsN f ks' j n := by
  unfold colsN
  apply List.map_congr_left
  intro k _
  have e1 : (decide (ks ≤ k) && decide (k < 0)) = false := by simp
  have e2 : (decide (ks' ≤ k) && decide (k < j)) = false := by
    rw [Bool.and_eq_false_iff]
    by_cases hk : k < j
    · exact .inl (decide_eq_false (by omega))
    · exact .inr (decide_eq_false hk)
  rw [e1, e2]
theorem colsN_next {f : Frm} {ks n k : Nat} {x : Col} (hk : k < n) (hks : ks ≤ k) (hx : x = (nameF k, 1 + f.1.getD k 0 % 2, nullF f k)) : (colsN f ks k n).set k x = colsN f ks (k + 1) n := by
  apply List.ext_getElem
  · rw [List.length_set, colsN_len, colsN_len]
  · intro i h1 h2
    rw [List.getElem_set, colsN_get h2]
    by_cases hik : k = i
    · subst hik
      rw [if_pos rfl, hx]
      have : (decide (ks ≤ k) && decide (k < k + 1)) = true := by simp [hks]
      rw [this, Bool.true_and]
    · rw [if_neg hik, colsN_get (by rw [List.length_set] at h1; exact h1)]
      have : decide (i < k) = decide (i < k + 1) := by rw [decide_eq_decide]; omega
      rw [this]

/-- A form that is read, and the table that comes of it, in memory: k columns are laid, ks stands as the number of keys. -/
structure ColI (f : Frm) (m : Nat) (RR : Option Addr) (cc : Nat) (nm : ByteArray) (w0 wr : World) (k : Nat) (v : Value) (ks : Int) : Prop where
  form : wr.heap[w0.heap.size]? = some (.cells #[.slice RR m cc, .int .u8 (f.2.toNat : Int)] 89 (0, 0))
  tab : wr.heap[w0.heap.size + 1 + 1 + 1]? = some (.cells #[.string nm, v, .int .i64 ks] 54 (0, 0))
  lit : k = 0 → v = .slice (some ⟨w0.heap.size + 1 + 1, 0, none⟩) 1 1 ∧ wr.heap[w0.heap.size + 1 + 1]? = some (.cells #[.string (one 97), .int .u8 1, .bool false] 91 (0, 0))
  own : 0 < k → Ow tCol 91 wr (fun b => w0.heap.size + 4 ≤ b) v (colsN f 0 0 k)
  fr : Fr No w0 wr
  sz : w0.heap.size + 4 ≤ wr.heap.size
theorem colI_start {f : Frm} {m : Nat} {RR : Option Addr} {cc : Nat} {nm : ByteArray} {w0 : World} {o : Obj} :
    ColI f m RR cc nm w0 ((((w0.alloc (.cells #[.slice RR m cc, .int .u8 (f.2.toNat : Int)] 89)).alloc o).alloc (.cells #[.string (one 97), .int .u8 1, .bool false] 91)).alloc (.cells #[.string nm, .slice (some ⟨w0.heap.size + 1 + 1, 0, none⟩) 1 1, .int .i64 1] 54)) 0 (.slice (some ⟨w0.heap.size + 1 + 1, 0, none⟩) 1 1) 1 where
  form := by rw [Below.heap_alloc _ _ _ (by simp; omega), Below.heap_alloc _ _ _ (by simp; omega), Below.heap_alloc _ _ _ (by simp)]; exact heap_alloc_new _ _
  tab := by
    have := heap_alloc_new (((w0.alloc (.cells #[.slice RR m cc, .int .u8 (f.2.toNat : Int)] 89)).alloc o).alloc (.cells #[.string (one 97), .int .u8 1, .bool false] 91)) (.cells #[.string nm, .slice (some ⟨w0.heap.size + 1 + 1, 0, none⟩) 1 1, .int .i64 1] 54)
    simp only [World.size_alloc] at this
    exact this
  lit := fun _ => ⟨rfl, by
    rw [Below.heap_alloc _ _ _ (by simp)]
    have := heap_alloc_new ((w0.alloc (.cells #[.slice RR m cc, .int .u8 (f.2.toNat : Int)] 89)).alloc o) (.cells #[.string (one 97), .int .u8 1, .bool false] 91)
    simp only [World.size_alloc] at this
    exact this⟩
  own := fun h => absurd h (Nat.lt_irrefl _)
  fr := ((((Fr.refl No w0).alloc _).alloc _).alloc _).alloc _
  sz := by simp
/-- A form's columns, as far as told which may be nothing. -/
def colsJ (f : Frm) (ks j : Nat) : List Col := if f.1 = [] then [(one 97, 1, false)] else colsN f ks j (wideF f)
theorem colsJ_len (f : Frm) (ks j : Nat) : (colsJ f ks j).length = max (wideF f) 1 := by
  unfold colsJ wideF
  by_cases h : f.1 = []
  · rw [if_pos h, h]; rfl
  · have := List.length_pos_iff.2 h
    rw [if_neg h, colsN_len]; omega
theorem ow_lit {w : World} {g : Nat} {e : TypeId} {x : Col} {F : Nat → Prop} (hF : F g) (h : w.heap[g]? = some (.cells #[.string x.1, .int .u8 (x.2.1.toNat : Int), .bool x.2.2] e (0, 0))) : Ow tCol e w F (.slice (some ⟨g, 0, none⟩) 1 1) [x] :=
  ⟨colC x, ⟨rfl, .inr ⟨g, 1, _, rfl, Nat.zero_le _, h, Nat.le_refl _, by decide, rfl, rfl⟩⟩, row_col.2 (by simp), fun k hk => by
    have he : g = k := Option.some.inj hk
    rw [← he]; exact hF⟩
theorem colI_end {f : Frm} {m : Nat} {RR : Option Addr} {cc : Nat} {nm : ByteArray} {w0 wr : World} {v : Value} {z : Int} {wd : Nat} (ks : Nat) (h : ColI f m RR cc nm w0 wr wd v z) (hwd : wideF f = wd) :
    ∃ g cv, v = .slice (some ⟨g, 0, none⟩) (max wd 1) cv ∧ max wd 1 ≤ cv ∧ Ow tCol 91 wr (fun b => b = w0.heap.size + 2 ∨ w0.heap.size + 4 ≤ b) v (colsJ f ks ks) := by
  subst hwd
  by_cases h0 : f.1 = []
  · have hw0 : wideF f = 0 := by unfold wideF; rw [h0]; rfl
    obtain ⟨rfl, hb⟩ := h.lit hw0
    refine ⟨_, 1, by rw [hw0]; rfl, by rw [hw0]; exact Nat.le_refl _, ?_⟩
    unfold colsJ
    rw [if_pos h0]
    exact ow_lit (.inl rfl) hb
  · have h1 : 0 < wideF f := by have := List.length_pos_iff.2 h0; unfold wideF; omega
    have ho := h.own h1
    obtain ⟨A, cv, rfl, hc, _⟩ := ho.slice
    obtain ⟨cs, q1, q2, q3⟩ := ho
    rw [colsN_len] at q1
    rcases q1.2 with ⟨_, q4⟩ | ⟨g, cap, cur, he, _⟩
    · omega
    · rw [colsN_len] at hc ⊢
      injection he with e1 e2 e3
      subst e1
      refine ⟨g, cv, by rw [show max (wideF f) 1 = wideF f by omega], by omega, ?_⟩
      unfold colsJ
      rw [if_neg h0, ← colsN_start f 0 ks ks (wideF f) (Nat.le_refl _)]
      have := h.own h1
      rw [colsN_len] at this
      exact this.mono fun b hb _ => .inr hb
theorem colsJ_next {f : Frm} {ks k : Nat} (hk : k < max (wideF f) 1) (hks : ks ≤ k) (hk1 : 1 ≤ ks) {x : Col} (hx : x = (nameF k, 1 + f.1.getD k 0 % 2, nullF f k)) : f.1 ≠ [] ∧ k < wideF f ∧ (colsJ f ks k).set k x = colsJ f ks (k + 1) := by
  have h0 : f.1 ≠ [] := fun h => by
    have : wideF f = 0 := by unfold wideF; rw [h]; rfl
    omega
  have h1 : k < wideF f := by omega
  refine ⟨h0, h1, ?_⟩
  unfold colsJ
  rw [if_neg h0, if_neg h0, colsN_next h1 hks hx]
theorem colsJ_row {w w' : World} {F : Nat → Prop} {f : Frm} {ks j : Nat} {cs : List Value} (hk : j < max (wideF f) 1) (hks : ks ≤ j) (hk1 : 1 ≤ ks) (hr : Row tCol w F (colsJ f ks j) cs) : Row tCol w' F (colsJ f ks (j + 1)) (cs.set (j * 3 + 2) (.bool (nullF f j))) := by
  obtain ⟨h0, h1, _⟩ := colsJ_next hk hks hk1 rfl
  unfold colsJ at hr ⊢
  rw [if_neg h0] at hr ⊢
  rw [row_col] at hr ⊢
  have hjl : j < (colsN f ks j (wideF f)).length := by rw [colsN_len]; exact h1
  have hx := colsN_get hjl
  have hs := colsN_next (f := f) (ks := ks) h1 hks (x := ((colsN f ks j (wideF f))[j].1, (colsN f ks j (wideF f))[j].2.1, nullF f j)) (by rw [hx])
  rw [hr, col_set _ _ _ hjl, hs]
theorem tabF_eq (i : Nat) (f : Frm) : tabF i f = (two 116 (UInt8.ofNat (48 + i)), colsJ f (keysF f) (max (wideF f) 1), (keysF f : Int)) := by
  unfold tabF colsJ
  by_cases h : f.1 = []
  · rw [if_pos h, if_pos h]
  · have h1 : 0 < wideF f := by have := List.length_pos_iff.2 h; unfold wideF; omega
    rw [if_neg h, if_neg h, show max (wideF f) 1 = wideF f by omega]
/-- A text of one byte. -/
theorem run_one_b (w' : World) (g : Nat) (a : UInt8) {x : Int} (hx : x = (a.toNat : Int)) (hb : w'.heap[g]? = some (.cells #[.int .u8 x] 5 (0, 0))) : (convert 46 9 (.slice (some ⟨g, 0, none⟩) 1 1)).run Tryz.prog w' = .ok (.string (one a)) w' := by
  subst hx
  have hrd : Rd Ty.u8 w' (fun _ => True) (some ⟨g, 0, none⟩) [a] := ⟨by simp, _, row_bytes [a], fun j v hv => ⟨_, rfl, trivial, by rw [add0, blk_cell hb, ← Array.getElem?_toList]; exact hv⟩⟩
  exact run_str (c := 1) (n := 1) hrd rfl
theorem info_col : (Tryz.prog.info? 91).map (fun i => (i.zero, i.size, i.bytes)) = some (some (.agg #[.string ⟨#[]⟩, .int .u8 0, .bool false]), 3, 24) := by kernel_rfl
theorem kind_toNat (b : UInt8) : (1 : Int) + (b.toNat : Int) % 2 = ((1 + b % 2 : UInt8).toNat : Int) := by
  rw [UInt8.toNat_add, UInt8.toNat_mod]
  have h1 : (1 : UInt8).toNat = 1 := rfl
  have h2 : (2 : UInt8).toNat = 2 := rfl
  rw [h1, h2]
  omega
end Go.Proofs.YtlmhphejgahfbaaGreatDoor
/- Small things: reference 1's Same; chapter 15's small and errs. -/
set_option linter.unusedVariables false
set_option linter.unusedSimpArgs false
namespace Go.Proofs.YtlmhphejgahfbaaGreatDoor
open Go.RowKit

theorem i64_at {w : World} {F : Nat → Prop} {A : Option Addr} {l : List Int} (h : Rd (Ty.int .i64) w F A l) {i : Nat} (hi : i < l.length) : ∃ ad, A = some ad ∧ w.cell? (ad.add i) = some (.int .i64 l[i]) := by
  obtain ⟨ad, cs, e, hk, h0, _⟩ := h.get' hi (show 0 < 1 by decide)
  obtain rfl : cs = _ := hk
  have := h0 _ rfl
  rw [show (Ty.int .i64).sz = 1 from rfl, Nat.mul_one] at this
  exact ⟨ad, e, this⟩
theorem val_ne {x1 y1 : UInt8} {x2 y2 : Int} {x3 y3 : ByteArray} (h : ¬ ((x1, x2, x3) : Val) = (y1, y2, y3)) : ¬ (x1.toNat : Int) = (y1.toNat : Int) ∨ (x1 = y1 ∧ ¬ x2 = y2) ∨ (x1 = y1 ∧ x2 = y2 ∧ ¬ x3.toList = y3.toList) := by
  by_cases h1 : x1 = y1
  · by_cases h2 : x2 = y2
    · refine .inr (.inr ⟨h1, h2, fun e => h ?_⟩)
      have := beq_toList x3 y3
      rw [e, beq_self_eq_true] at this
      rw [h1, h2, of_decide_eq_true this.symm]
    · exact .inr (.inl ⟨h1, h2⟩)
  · exact .inl fun e => h1 (UInt8.toNat_inj.1 (by omega))
set_option maxHeartbeats 2000000 in
set_option maxRecDepth 100000 in
theorem same_ok {w : World} {F G : Nat → Prop} {A B : Option Addr} {n m c d : Nat} {xs ys : List Val} (ha : Rd tVal w F A xs) (hb : Rd tVal w G B ys) (hn : n = xs.length) (hm : m = ys.length) (hl : xs.length ≤ 1000) (hl' : ys.length ≤ 1000) :
    Calls Tryz.prog 23 #[.slice A n c, .slice B m d] w fun e w' => e = .returned (.bool (decide (xs = ys))) ∧ Fr No w w' := by
  have hni : (n : Int) ≤ 1000 := by omega
  have hmi : (m : Int) ≤ 1000 := by omega
  by_cases hlen : xs.length = ys.length
  · have hnm : n = m := by omega
    subst hnm
    have H := Lib.hid (And.intro ha (And.intro hb (And.intro hn (And.intro hm hlen))))
    clear ha hb hn hm hl hl' hlen
    go_enter Tryz.func23, Tryz.ntmps23
    go_wp2_with fail
    go_loopw [5] (fun iv wr => ∃ k : Nat, k ≤ n ∧ iv = .int .i64 (k : Int) ∧ Hid (xs.take k = ys.take k ∧ Fr No w wr)) (fun iv _ => n - (intOf iv).toNat)
    case atStart => exact ⟨0, Nat.zero_le _, rfl, rfl, Fr.refl No w⟩
    case round =>
      obtain ⟨k, hk, rfl, I⟩ := hrel
      have hk0 : (0 : Int) ≤ (k : Int) := Int.natCast_nonneg _
      by_cases hlt : k < n
      · have hk1 : (k : Int) < (n : Int) := by omega
        have hx : k < xs.length := by have := H.out.2.2.1; omega
        have hy : k < ys.length := by have := H.out.2.2.2.1; omega
        obtain ⟨ad, rfl, a0, a1, a2⟩ := val_at (H.out.1.fr0 I.out.2) hx
        obtain ⟨bd, rfl, b0, b1, b2⟩ := val_at (H.out.2.1.fr0 I.out.2) hy
        obtain ⟨x, hxe⟩ : ∃ x, xs[k] = x := ⟨_, rfl⟩
        obtain ⟨y, hye⟩ : ∃ y, ys[k] = y := ⟨_, rfl⟩
        rw [hxe] at a0 a1 a2
        rw [hye] at b0 b1 b2
        have hnext : xs.take (k + 1) = ys.take (k + 1) ↔ x = y := by
          rw [List.take_succ_eq_append_getElem (l := xs) hx, List.take_succ_eq_append_getElem (l := ys) hy, I.out.1, hxe, hye]
          constructor
          · intro e
            have := List.append_cancel_left e
            injection this
          · intro e
            rw [e]
        have hno : x ≠ y → xs ≠ ys := fun h e => h (by rw [← hxe, ← hye]; subst e; rfl)
        have HN := Lib.hid (And.intro hnext (And.intro hno I.out.2))
        clear hnext hno I hxe hye
        obtain ⟨x1, x2, x3⟩ := x
        obtain ⟨y1, y2, y3⟩ := y
        dsimp only at a0 a1 a2 b0 b1 b2
        by_cases he : ((x1, x2, x3) : Val) = (y1, y2, y3)
        · have HE := Lib.hid (HN.out.1.2 he)
          injection he with e1 e2
          injection e2 with e2 e3
          subst e1 e2 e3
          go_wp2
          go_quiet (fail)
          go_wp2
          go_roundw
          case rel => exact ⟨k + 1, by omega, by go_num, HE.out, HN.out.2.2.drewN _⟩
          case measure => simp [intOf]; omega
        · have HE := Lib.hid (HN.out.2.1 he)
          rcases val_ne he with q | ⟨rfl, q⟩ | ⟨rfl, rfl, q⟩
          · clear he
            go_wp2
            go_quiet (fail)
            go_wp2
            go_ret
            exact ⟨by rw [decide_eq_false HE.out]; rfl, HN.out.2.2.drewN _⟩
          · clear he
            go_wp2
            go_quiet (fail)
            go_wp2
            go_ret
            exact ⟨by rw [decide_eq_false HE.out]; rfl, HN.out.2.2.drewN _⟩
          · clear he
            go_wp2
            go_quiet (fail)
            go_wp2
            go_ret
            exact ⟨by rw [decide_eq_false HE.out]; rfl, HN.out.2.2.drewN _⟩
      · obtain rfl : k = n := by omega
        have he : xs = ys := by
          have h1 := I.out.1
          rw [List.take_of_length_le (by have := H.out.2.2.1; omega), List.take_of_length_le (by have := H.out.2.2.2.1; omega)] at h1
          exact h1
        have HE := Lib.hid he
        clear he
        go_wp2
        go_ret
        exact ⟨by rw [decide_eq_true HE.out]; rfl, I.out.2⟩
  · have hne : ¬ (n : Int) = (m : Int) := by omega
    have HE := Lib.hid (And.intro (show ¬ xs = ys from fun e => hlen (by rw [e])) (Fr.refl No w))
    clear hlen ha hb hn hm
    go_enter Tryz.func23, Tryz.ntmps23
    go_wp2
    go_ret
    exact ⟨by rw [decide_eq_false HE.out.1]; rfl, HE.out.2⟩

set_option maxHeartbeats 2000000 in
set_option maxRecDepth 100000 in
theorem errs_ok {w : World} {F G : Nat → Prop} {A B : Option Addr} {n m c d : Nat} {xs ys : List Int} (ha : Rd (Ty.int .i64) w F A xs) (hb : Rd (Ty.int .i64) w G B ys) (hn : n = xs.length) (hm : m = ys.length) (hl : xs.length ≤ 1000) (hl' : ys.length ≤ 1000) :
    Calls Tryz.prog 24 #[.slice A n c, .slice B m d] w fun e w' => e = .returned (.bool (decide (xs = ys))) ∧ Fr No w w' := by
  have hni : (n : Int) ≤ 1000 := by omega
  have hmi : (m : Int) ≤ 1000 := by omega
  by_cases hlen : xs.length = ys.length
  · have hnm : n = m := by omega
    subst hnm
    have H := Lib.hid (And.intro ha (And.intro hb (And.intro hn (And.intro hm hlen))))
    clear ha hb hn hm hl hl' hlen
    go_enter Tryz.func24, Tryz.ntmps24
    go_wp2_with fail
    go_loopw [5] (fun iv wr => ∃ k : Nat, k ≤ n ∧ iv = .int .i64 (k : Int) ∧ Hid (xs.take k = ys.take k ∧ Fr No w wr)) (fun iv _ => n - (intOf iv).toNat)
    case atStart => exact ⟨0, Nat.zero_le _, rfl, rfl, Fr.refl No w⟩
    case round =>
      obtain ⟨k, hk, rfl, I⟩ := hrel
      have hk0 : (0 : Int) ≤ (k : Int) := Int.natCast_nonneg _
      by_cases hlt : k < n
      · have hk1 : (k : Int) < (n : Int) := by omega
        have hx : k < xs.length := by have := H.out.2.2.1; omega
        have hy : k < ys.length := by have := H.out.2.2.2.1; omega
        obtain ⟨ad, rfl, a0⟩ := i64_at (H.out.1.fr0 I.out.2) hx
        obtain ⟨bd, rfl, b0⟩ := i64_at (H.out.2.1.fr0 I.out.2) hy
        obtain ⟨x, hxe⟩ : ∃ x, xs[k] = x := ⟨_, rfl⟩
        obtain ⟨y, hye⟩ : ∃ y, ys[k] = y := ⟨_, rfl⟩
        rw [hxe] at a0
        rw [hye] at b0
        have hnext : xs.take (k + 1) = ys.take (k + 1) ↔ x = y := by
          rw [List.take_succ_eq_append_getElem (l := xs) hx, List.take_succ_eq_append_getElem (l := ys) hy, I.out.1, hxe, hye]
          constructor
          · intro e
            have := List.append_cancel_left e
            injection this
          · intro e
            rw [e]
        have hno : x ≠ y → xs ≠ ys := fun h e => h (by rw [← hxe, ← hye]; subst e; rfl)
        have HN := Lib.hid (And.intro hnext (And.intro hno I.out.2))
        clear hnext hno I hxe hye
        by_cases he : x = y
        · have HE := Lib.hid (HN.out.1.2 he)
          subst he
          go_wp2
          go_quiet (fail)
          go_wp2
          go_roundw
          case rel => exact ⟨k + 1, by omega, by go_num, HE.out, HN.out.2.2.drewN _⟩
          case measure => simp [intOf]; omega
        · have HE := Lib.hid (HN.out.2.1 he)
          go_wp2
          go_quiet (fail)
          go_wp2
          go_ret
          exact ⟨by rw [decide_eq_false HE.out]; rfl, HN.out.2.2.drewN _⟩
      · obtain rfl : k = n := by omega
        have he : xs = ys := by
          have h1 := I.out.1
          rw [List.take_of_length_le (by have := H.out.2.2.1; omega), List.take_of_length_le (by have := H.out.2.2.2.1; omega)] at h1
          exact h1
        have HE := Lib.hid he
        clear he
        go_wp2
        go_ret
        exact ⟨by rw [decide_eq_true HE.out]; rfl, I.out.2⟩
  · have hne : ¬ (n : Int) = (m : Int) := by omega
    have HE := Lib.hid (And.intro (show ¬ xs = ys from fun e => hlen (by rw [e])) (Fr.refl No w))
    clear hlen ha hb hn hm
    go_enter Tryz.func24, Tryz.ntmps24
    go_wp2
    go_ret
    exact ⟨by rw [decide_eq_false HE.out.1]; rfl, HE.out.2⟩
/-- Are there few tables, each narrow? -/
def smallF (l : List Frm) : Bool := (l.all fun f => decide (f.1.length ≤ 9)) && decide (l.length ≤ 5)
set_option maxHeartbeats 2000000 in
set_option maxRecDepth 100000 in
theorem small_ok {w : World} {R : Nat → Prop} {A : Option Addr} {n c : Nat} {l : List Frm} (h : Rd tFrm w R A l) (hn : n = l.length) :
    Calls Tryz.prog 21 #[.agg #[.slice A n c, .slice none 0 0]] w fun e w' => e = .returned (.bool (smallF l)) ∧ Fr No w w' := by
  have hn63 : (n : Int) ≤ 9223372036854775807 := by have := h.1; omega
  have hn0 : (0 : Int) ≤ (n : Int) := Int.natCast_nonneg _
  obtain ⟨W, hW⟩ : ∃ W, W = w.alloc (.cells #[.slice A n c, .slice none 0 0] 50) := ⟨_, rfl⟩
  have hf : Fr No w W := by rw [hW]; exact (Fr.refl No w).alloc _
  have hb : W.heap[w.heap.size]? = some (.cells #[.slice A n c, .slice none 0 0] 50 (0, 0)) := by rw [hW]; exact heap_alloc_new w _
  have H := Lib.hid (And.intro h (And.intro hn (And.intro hf hb)))
  clear h hn hf hb
  go_enter Tryz.func21, Tryz.ntmps21
  go_wp2_with fail
  rw [← hW]
  clear hW
  have m0 := blk_cell H.out.2.2.2 0
  have m1 := blk_cell H.out.2.2.2 1
  simp at m0 m1
  refine wp_loop_rounds 1 ?_
  rw [rounds_succ]
  go_wp2_with fail
  have HW := Lib.hid (Fr.refl No W)
  go_loopw [4] (fun iv wr => ∃ k : Nat, k ≤ n ∧ iv = .int .i64 (k : Int) ∧ Hid (((l.take k).all fun f => decide (f.1.length ≤ 9)) = true ∧ Fr No W wr)) (fun iv _ => n - (intOf iv).toNat)
  case atStart => exact ⟨0, Nat.zero_le _, rfl, rfl, HW.out⟩
  case round =>
    obtain ⟨k, hk, rfl, I⟩ := hrel
    have hk0 : (0 : Int) ≤ (k : Int) := Int.natCast_nonneg _
    have m0' := I.out.2.cell m0 (fun f => f)
    have m1' := I.out.2.cell m1 (fun f => f)
    by_cases hlt : k < n
    · have hk1 : (k : Int) < (n : Int) := by omega
      have hkl : k < l.length := by have := H.out.2.1; omega
      have hfr : Fr No w wr := H.out.2.2.1.next I.out.2 (fun _ _ f => f.elim)
      obtain ⟨ad, RR, cc, rfl, x0, x1, hcc, hrr⟩ := frm_at (H.out.1.fr0 hfr) hkl
      have hsnoc : ((l.take (k + 1)).all fun f => decide (f.1.length ≤ 9)) = (((l.take k).all fun f => decide (f.1.length ≤ 9)) && decide (l[k].1.length ≤ 9)) := by
        rw [List.take_succ_eq_append_getElem hkl, List.all_append]; simp
      have hlow : ¬ l[k].1.length ≤ 9 → smallF l = false := fun h => by
        unfold smallF
        rw [Bool.and_eq_false_iff]
        refine .inl ?_
        rw [List.all_eq_false]
        exact ⟨l[k], List.getElem_mem hkl, by simpa using h⟩
      obtain ⟨f, hf⟩ : ∃ f, l[k] = f := ⟨_, rfl⟩
      rw [hf] at x0 x1 hsnoc hlow
      obtain ⟨m, hm⟩ : ∃ m, f.1.length = m := ⟨_, rfl⟩
      rw [hm] at x0 hsnoc hlow
      by_cases h9 : m ≤ 9
      · have h9i : (m : Int) ≤ 9 := by omega
        have HS := Lib.hid (And.intro (show ((l.take (k + 1)).all fun f => decide (f.1.length ≤ 9)) = true by rw [hsnoc, I.out.1, decide_eq_true h9]; rfl) I.out.2)
        clear hsnoc hlow h9 hm hf
        go_wp2_with fail
        go_roundw
        case rel => exact ⟨k + 1, by omega, by go_num, HS.out⟩
        case measure => simp [intOf]; omega
      · have h9i : (9 : Int) < (m : Int) := by omega
        have HS := Lib.hid (And.intro (hlow h9) hfr)
        clear hsnoc hlow h9 hm hf
        go_wp2_with fail
        go_ret
        exact ⟨by rw [HS.out.1]; rfl, HS.out.2⟩
    · obtain rfl : k = n := by omega
      have hfr : Fr No w wr := H.out.2.2.1.next I.out.2 (fun _ _ f => f.elim)
      have hall : (l.all fun f => decide (f.1.length ≤ 9)) = true := by
        have h1 := I.out.1
        rwa [List.take_of_length_le (by have := H.out.2.1; omega)] at h1
      by_cases h5 : k ≤ 5
      · have h5i : (k : Int) ≤ 5 := by omega
        have HS := Lib.hid (And.intro (show smallF l = true by unfold smallF; rw [hall, decide_eq_true (by have := H.out.2.1; omega)]; rfl) hfr)
        clear hall h5 hfr
        go_wp2_with fail
        go_ret
        exact ⟨by rw [HS.out.1]; rfl, HS.out.2⟩
      · have h5i : (5 : Int) < (k : Int) := by omega
        have HS := Lib.hid (And.intro (show smallF l = false by unfold smallF; rw [hall, decide_eq_false (by have := H.out.2.1; omega)]; rfl) hfr)
        clear hall h5 hfr
        go_wp2_with fail
        go_ret
        exact ⟨by rw [HS.out.1]; exact congrArg (fun b => Ending.returned (Value.bool b)) (decide_eq_false (show ¬ (k : Int) ≤ 5 by omega)), HS.out.2⟩
end Go.Proofs.YtlmhphejgahfbaaGreatDoor
