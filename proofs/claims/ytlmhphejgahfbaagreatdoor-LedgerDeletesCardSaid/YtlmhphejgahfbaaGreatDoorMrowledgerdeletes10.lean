/- Texts of this claim, one behind the other: Tail, Tabs. -/
import Derived.Test.YtlmhphejgahfbaaGreatDoorMrowledgerdeletes1
import Derived.Deep.RegionHeld3
import Derived.StillTail
import Derived.Test.YtlmhphejgahfbaaGreatDoorMrowledgerdeletes6
import Derived.Test.YtlmhphejgahfbaaGreatDoorMrowledgerdeletes7
import Derived.Test.YtlmhphejgahfbaaGreatDoorMrowledgerdeletesKFit
/- A region that draws its order, whose LAST operation (all others are ahead of it) may write what its loads read: the condition on the world is shown behind every other operation, not behind that one. -/
set_option linter.unusedVariables false
namespace Go.Proofs.YtlmhphejgahfbaaGreatDoor
open Go.RowKit

section
variable {P : Program} {ops : Array Oper} {Q : Exit → Act → World → Prop} {md : Region.Mode} {S : World → Prop} {n : Nat}

def wpTail (P : Program) (md : Region.Mode) (ops : Array Oper) (Q : Exit → Act → World → Prop) (S : World → Prop) (n : Nat) : Nat → Array Bool → Act → World → Prop
  | 0, listed, a, w => Region.ready md ops listed = [] ∧ Q .normal a w
  | fuel + 1, listed, a, w =>
    (Region.ready md ops listed = [] → Q .normal a w) ∧
    ∀ i ∈ Region.ready md ops listed, wpOp P ops Q i (fun a' w' => (i < n → S w') ∧ wpTail P md ops Q S n fuel (listed.setIfInBounds i true) a' w') a w

theorem wpTail.any : ∀ (fuel : Nat) (listed : Array Bool) (a : Act) (w : World), wpTail P md ops Q S n fuel listed a w → wpAny P md ops Q fuel listed a w
  | 0, _, _, _, h => h
  | fuel + 1, _, _, _, h => ⟨h.1, fun i hi => wpOp_mono (fun a' w' h' => wpTail.any fuel _ a' w' h'.2) (h.2 i hi)⟩

theorem wpTail_first {i : Nat} {oi : Oper} {v : Value} (hi : ops[i]? = some oi) (hsel : ∀ (j : Nat) (o : Oper) cs b, ops[j]? = some o → o.op ≠ .select cs b)
    (hs : Region.sinkB md ops n = true) (hc : Region.chainB md ops n = true) (hn : n < ops.size) (hin : i < n)
    (hQ : ∀ c a w, Q (.panic c) (a.put oi.dst v) w → Q (.panic c) a w) :
    ∀ (fuel : Nat) (listed : Array Bool) (a : Act) (w : World), HeadInv md ops n listed →
      (∀ j oj, ops[j]? = some oj → j ≠ i → listed.getD j true = false → (∀ e ∈ oj.after, Region.binds md e = true → e.on ≠ i) → oi.apart ops oj = true) →
      i ∈ Region.ready md ops listed → YieldsIf P ops S oi v a → S w →
      wpTail P md ops Q S n fuel (listed.setIfInBounds i true) (a.put oi.dst v) w → wpTail P md ops Q S n (fuel + 1) listed a w := by
  intro fuel
  induction fuel with
  | zero =>
    intro listed a w inv _ hr hy hS H
    refine ⟨fun h => (by rw [h] at hr; cases hr), fun j hj => ?_⟩
    by_cases hji : j = i
    · subst hji; exact hy.wpOp hi hS ⟨fun _ => hS, H⟩
    · have := ready_mono hj hji
      rw [H.1] at this
      cases this
  | succ fuel ih =>
    intro listed a w inv hfree hr hy hS H
    have hun := (mem_ready.1 hr).1
    refine ⟨fun h => (by rw [h] at hr; cases hr), fun j hj => ?_⟩
    have hjn : j < n := by
      rcases Nat.lt_or_ge j n with h | h
      · exact h
      · exact absurd hj (tail_waits hs hc hn inv _ i rfl hin hun j h)
    by_cases hji : j = i
    · subst hji; exact hy.wpOp hi hS ⟨fun _ => hS, H⟩
    · have h1 := H.2 j (ready_mono hj hji)
      obtain ⟨hjun, oj, hoj, hall⟩ := mem_ready.1 hj
      have hnot : ∀ e ∈ oj.after, Region.binds md e = true → e.on ≠ i := fun e he hb heq => by
        have h1 := hall e he hb
        rw [heq, getD_both hun] at h1
        cases h1
      have h2 := wpOp_putIf hoj (hfree j oj hoj hji hjun hnot) (fun cs b => hsel i oi cs b hi) (fun cs b => hsel j oj cs b hoj) hQ hy h1
      have hfree' : ∀ k ok, ops[k]? = some ok → k ≠ i → (listed.setIfInBounds j true).getD k true = false →
          (∀ e ∈ ok.after, Region.binds md e = true → e.on ≠ i) → oi.apart ops ok = true := fun k ok hk hki hun hno => by
        refine hfree k ok hk hki ?_ hno
        by_cases hjk : j = k
        · subst hjk; exact hjun
        · rw [getD_set_ne true hjk] at hun; exact hun
      refine wpOp_mono (fun a' w' h3 => ⟨fun _ => h3.2.1 hjn, ih (listed.setIfInBounds j true) a' w' (inv.set hj hjn) hfree' (ready_mono hr (Ne.symm hji)) h3.1 (h3.2.1 hjn) ?_⟩) h2
      rw [Array.setIfInBounds_comm _ _ hji]
      exact h3.2.2

/-- What the walk goes through. -/
def WalkTail (P : Program) (md : Region.Mode) (ops : Array Oper) (Q : Exit → Act → World → Prop) (S : World → Prop) (n : Nat) (fuel : Nat) (listed : Array Bool) (a : Act) (w : World) : Prop :=
  HeadInv md ops n listed → wpTail P md ops Q S n fuel listed a w

/-- The beginning: n the last operation's number. -/
theorem wp_region_tail {id : Nat} {l : List Oper} {a : Act} {w : World} (n : Nat) (S : World → Prop) (hm : P.follows .mixedOrders = true) (hS : S w.drew)
    (h : S w.drew → WalkTail P .any l.toArray Q S n l.length (Array.replicate l.length false) a w.drew) : (Code.region id l.toArray true).wp P Q a w := by
  refine wp_region_any hm ?_
  refine wpTail.any (S := S) (n := n) _ _ _ _ ?_
  refine h hS ⟨by simp, fun j oj _ hl => (by rw [getD_replicate_false] at hl; cases hl), fun t _ ht => getD_in (by simpa using ht) (getD_replicate_false _ _)⟩

/-- Take number i first. -/
theorem WalkTail.take {l : List Oper} {i : Nat} {oi : Oper} {v : Value} {fuel : Nat} {listed : Array Bool} {a : Act} {w : World} (hi : l[i]? = some oi)
    (hb : (Region.noSelect l.toArray && Region.sinkB md l.toArray n && Region.chainB md l.toArray n && decide (n < l.toArray.size) && decide (i < n) && Region.free md l.toArray listed i && (Region.ready md l.toArray listed).contains i) = true)
    (hQ : ∀ c a w, Q (.panic c) (a.put oi.dst v) w → Q (.panic c) a w) (hy : YieldsIf P l.toArray S oi v a) (hS : S w)
    (h : WalkTail P md l.toArray Q S n fuel (listed.setIfInBounds i true) (a.put oi.dst v) w) : WalkTail P md l.toArray Q S n (fuel + 1) listed a w := fun inv => by
  simp only [Bool.and_eq_true, decide_eq_true_eq] at hb
  obtain ⟨⟨⟨⟨⟨⟨h1, h2⟩, h3⟩, h4⟩, h5⟩, h6⟩, h7⟩ := hb
  have hr : i ∈ Region.ready md l.toArray listed := by simpa using h7
  exact wpTail_first (by simpa using hi) (Region.noSelect_spec h1) h2 h3 h4 h5 hQ fuel listed a w inv (Region.free_spec (by simpa using hi) h6) hr hy hS (h (inv.set hr h5))

theorem wpTail.turn {S' : World → Prop} (h : ∀ w, S' w → S w) : ∀ (fuel : Nat) (listed : Array Bool) (a : Act) (w : World), wpTail P md ops Q S' n fuel listed a w → wpTail P md ops Q S n fuel listed a w
  | 0, _, _, _, hw => hw
  | fuel + 1, _, _, _, hw => ⟨hw.1, fun i hi => wpOp_mono (fun a' w' h' => ⟨fun hin => h _ (h'.1 hin), wpTail.turn h fuel _ a' w' h'.2⟩) (hw.2 i hi)⟩

/-- From here on more is known of the world. -/
theorem WalkTail.turn {l : List Oper} (S' : World → Prop) {fuel : Nat} {listed : Array Bool} {a : Act} {w : World} (h : ∀ w, S' w → S w) (hS : S' w) (hw : S' w → WalkTail P md l.toArray Q S' n fuel listed a w) : WalkTail P md l.toArray Q S n fuel listed a w :=
  fun inv => wpTail.turn h _ _ _ _ (hw hS inv)

/-- Number i alone may come up: S is shown anew behind it. -/
theorem WalkTail.one {l : List Oper} {i : Nat} {oi : Oper} {fuel : Nat} {listed : Array Bool} {a : Act} {w : World} (hi : l[i]? = some oi) (hr : Region.ready md l.toArray listed = [i]) (hin : i < n)
    (h : ∀ K' : Act → World → Prop, Shut (∀ a w, S w → (S w → WalkTail P md l.toArray Q S n fuel (listed.setIfInBounds i true) a w) → K' a w) → if Region.wanted oi (yielded l.toArray a.tmps) = true then Oper.wp P oi a w K' Q else K' (a.put oi.dst undef) w) :
    WalkTail P md l.toArray Q S n (fuel + 1) listed a w := fun inv =>
  ⟨fun h0 => (by rw [hr] at h0; cases h0), fun j hj => by
    rw [hr] at hj
    obtain rfl : j = i := by simpa using hj
    have inv' := inv.set (i := j) (by rw [hr]; simp) hin
    exact wpOp_step (by simpa using hi) (fun K' hK => h K' (fun a w hS hW => hK a w ⟨fun _ => hS, hW hS inv'⟩))⟩

/-- The last operation. -/
theorem WalkTail.last {l : List Oper} {oi : Oper} {fuel : Nat} {listed : Array Bool} {a : Act} {w : World} (hi : l[n]? = some oi) (hr : Region.ready md l.toArray listed = [n]) (hd : Region.ready md l.toArray (listed.setIfInBounds n true) = [])
    (h : ∀ K' : Act → World → Prop, Shut (∀ a w, Q .normal a w → K' a w) → if Region.wanted oi (yielded l.toArray a.tmps) = true then Oper.wp P oi a w K' Q else K' (a.put oi.dst undef) w) :
    WalkTail P md l.toArray Q S n (fuel + 1) listed a w := fun inv =>
  ⟨fun h0 => (by rw [hr] at h0; cases h0), fun j hj => by
    rw [hr] at hj
    obtain rfl : j = n := by simpa using hj
    refine wpOp_step (by simpa using hi) (fun K' hK => h K' (fun a w hQ => hK a w ⟨fun h => absurd h (Nat.lt_irrefl _), ?_⟩))
    cases fuel with
    | zero => exact ⟨hd, hQ⟩
    | succ f => exact ⟨fun _ => hQ, by rw [hd]; simp⟩⟩

end
end Go.Proofs.YtlmhphejgahfbaaGreatDoor
/- Reference 5: Tables, of any forms. -/
set_option linter.unusedVariables false
set_option linter.unusedSimpArgs false
namespace Go.Proofs.YtlmhphejgahfbaaGreatDoor
open Go.RowKit

abbrev Frm := Bs × UInt8
abbrev tFrm : Ty Frm := Ty.pair (Ty.slice Ty.u8) Ty.u8
theorem frm_at {w : World} {F : Nat → Prop} {A : Option Addr} {l : List Frm} (h : Rd tFrm w F A l) {i : Nat} (hi : i < l.length) :
    ∃ ad R c, A = some ad ∧ w.cell? (ad.add (i * 2)) = some (.slice R l[i].1.length c) ∧ w.cell? ⟨(ad.add (i * 2)).block, (ad.add (i * 2)).off + 1, none⟩ = some (.int .u8 (l[i].2.toNat : Int)) ∧ l[i].1.length ≤ c ∧ Rd Ty.u8 w F R l[i].1 := by
  obtain ⟨ad, cs, e, hk, h0, h1⟩ := h.get' hi (by decide)
  obtain ⟨c1, c2, rfl, k1, k2⟩ := hk
  obtain ⟨R, c, rfl, hc, hr⟩ := k1
  obtain rfl : c2 = _ := k2
  exact ⟨ad, R, c, e, h0 _ rfl, h1 1 _ (by decide) rfl, hc, hr⟩

/-! ### Columns in cells -/
def colC (c : Col) : List Value := [.string c.1, .int .u8 (c.2.1.toNat : Int), .bool c.2.2]
theorem row_col {w : World} {F : Nat → Prop} {xs : List Col} {cs : List Value} : Row tCol w F xs cs ↔ cs = xs.flatMap colC := by
  induction xs generalizing cs with
  | nil => exact Iff.rfl
  | cons x xs ih =>
    constructor
    · rintro ⟨c, d, rfl, hk, hr⟩
      obtain ⟨c1, c2, rfl, k1, k2⟩ := hk
      obtain rfl : c1 = _ := k1
      obtain ⟨c3, c4, rfl, k3, k4⟩ := k2
      obtain rfl : c3 = _ := k3
      obtain rfl : c4 = _ := k4
      rw [ih.1 hr]
      rfl
    · rintro rfl
      exact ⟨colC x, xs.flatMap colC, rfl, ⟨[_], [_, _], rfl, rfl, [_], [_], rfl, rfl, rfl⟩, ih.2 rfl⟩
theorem col_set (xs : List Col) (k : Nat) (b : Bool) (hk : k < xs.length) : (xs.flatMap colC).set (k * 3 + 2) (.bool b) = (xs.set k (xs[k].1, xs[k].2.1, b)).flatMap colC := by
  induction xs generalizing k with
  | nil => cases hk
  | cons x xs ih =>
    cases k with
    | zero => rfl
    | succ k =>
      have := ih k (by simpa using hk)
      rw [List.set_cons_succ, List.flatMap_cons, List.flatMap_cons, List.getElem_cons_succ, ← this]
      show (colC x ++ _).set _ _ = _
      rw [show (k + 1) * 3 + 2 = (colC x).length + (k * 3 + 2) by show _ = 3 + _; omega, List.set_append_right _ _ (by omega), Nat.add_sub_cancel_left]
/-- An element's cell is written in place. -/
theorem Ow.store {α : Type} {t : Ty α} {e : TypeId} {w : World} {F : Nat → Prop} {g n c j : Nat} {u : Value} {xs xs' : List α} (h : Ow t e w F (.slice (some ⟨g, 0, none⟩) n c) xs) (hl : xs'.length = xs.length)
    (k : ∀ cs, Row t w (fun i => F i ∧ some g ≠ some i) xs cs → Row t (w.setCell ⟨g, j, none⟩ u) (fun i => F i ∧ some g ≠ some i) xs' (cs.set j u)) : Ow t e (w.setCell ⟨g, j, none⟩ u) F (.slice (some ⟨g, 0, none⟩) n c) xs' := by
  obtain ⟨cs, h1, h2, h3⟩ := h
  refine ⟨cs.set j u, ⟨by rw [List.length_set, hl]; exact h1.1, ?_⟩, k cs h2, h3⟩
  rcases h1.2 with ⟨h4, _⟩ | ⟨g', cap, cur, he, hb, hg, hn, hm, hs, ht⟩
  · cases h4
  · injection he with he1 he2 he3
    injection he1 with he1
    injection he1 with he1
    subst he1 he3
    refine .inr ⟨g, c, cur.setIfInBounds j u, by rw [hl, ← he2], hb, blk_set hg _ _, by rw [hl]; exact hn, hm, by simpa using hs, ?_⟩
    rw [hl, Array.toList_setIfInBounds, List.take_set, ht]

/-! ### What comes of a form -/
def wideF (f : Frm) : Nat := min f.1.length 8
def keysF (f : Frm) : Nat := 1 + f.2.toNat % max (wideF f) 1
def nameF (k : Nat) : ByteArray := one (UInt8.ofNat (97 + k))
def nullF (f : Frm) (k : Nat) : Bool := decide (2 ≤ (f.1.getD k 0).toNat % 4)
/-- Its columns, ahead of whether each may be nothing: the first ones are told. -/
def colsN (f : Frm) (ks : Nat) (j n : Nat) : List Col := (List.range n).map fun k => (nameF k, 1 + f.1.getD k 0 % 2, decide (ks ≤ k) && decide (k < j) && nullF f k)
def tabF (i : Nat) (f : Frm) : Tab := (two 116 (UInt8.ofNat (48 + i)), if f.1 = [] then [(one 97, 1, false)] else colsN f (keysF f) (wideF f) (wideF f), (keysF f : Int))
def tabsF (l : List Frm) : List Tab := (List.range (max 1 (min 4 l.length))).map fun i => tabF i (l.getD i ([], 0))

theorem tabsF_len (l : List Frm) : (tabsF l).length = max 1 (min 4 l.length) := by unfold tabsF; simp
theorem tabsF_get {l : List Frm} {i : Nat} (h : i < l.length) (h4 : i < 4) : (tabsF l)[i]? = some (tabF i l[i]) := by
  unfold tabsF
  rw [List.getElem?_map, List.getElem?_range (by omega)]
  rw [Option.map_some, List.getD_eq_getElem?_getD, List.getElem?_eq_getElem h]
  rfl
theorem keysF_eq (f : Frm) : keysF f = 1 + f.2.toNat % max (wideF f) 1 := rfl
theorem keysF_le (f : Frm) : 1 ≤ keysF f ∧ keysF f ≤ max (wideF f) 1 := by
  have := Nat.mod_lt f.2.toNat (show 0 < max (wideF f) 1 by omega)
  unfold keysF; omega
theorem colsN_len (f : Frm) (ks j n : Nat) : (colsN f ks j n).length = n := by unfold colsN; simp
theorem colsN_succ (f : Frm) (ks k : Nat) : colsN f ks 0 (k + 1) = colsN f ks 0 k ++ [(nameF k, 1 + f.1.getD k 0 % 2, false)] := by
  unfold colsN
  rw [List.range_succ, List.map_append]
  simp
theorem colsN_get {f : Frm} {ks j n i : Nat} (h : i < (colsN f ks j n).length) : (colsN f ks j n)[i] = (nameF i, 1 + f.1.getD i 0 % 2, decide (ks ≤ i) && decide (i < j) && nullF f i) := by
  simp [colsN]
theorem colsN_start (f : Frm) (ks ks' j n : Nat) (h : j ≤ ks') : colsN f ks 0 n = colsN f ks' j n := by
  unfold colsN
  apply List.map_congr_left
  intro k _
  have e1 : (decide (ks ≤ k) && decide (k < 0)) = false := by simp
  have e2 : (decide (ks' ≤ k) && decide (k < j)) = false := by
    rw [Bool.and_eq_false_iff]
    by_cases hk : k < j
    · exact .inl (decide_eq_false (by omega))
    · exact .inr (decide_eq_false hk)
  rw [e1, e2]
theorem colsN_next {f : Frm} {ks n k : Nat} {x : Col} (hk : k < n) (hks : ks ≤ k) (hx : x = (nameF k, 1 + f.1.getD k 0 % 2, nullF f k)) : (colsN f ks k n).set k x = colsN f ks (k + 1) n := by
  apply List.ext_getElem
  · rw [List.length_set, colsN_len, colsN_len]
  · intro i h1 h2
    rw [List.getElem_set, colsN_get h2]
    by_cases hik : k = i
    · subst hik
      rw [if_pos rfl, hx]
      have : (decide (ks ≤ k) && decide (k < k + 1)) = true := by simp [hks]
      rw [this, Bool.true_and]
    · rw [if_neg hik, colsN_get (by rw [List.length_set] at h1; exact h1)]
      have : decide (i < k) = decide (i < k + 1) := by rw [decide_eq_decide]; omega
      rw [this]

/-- A form that is read, and the table that comes of it, in memory: k columns are laid, ks stands as the number of keys. -/
structure ColI (f : Frm) (m : Nat) (RR : Option Addr) (cc : Nat) (nm : ByteArray) (w0 wr : World) (k : Nat) (v : Value) (ks : Int) : Prop where
  form : wr.heap[w0.heap.size]? = some (.cells #[.slice RR m cc, .int .u8 (f.2.toNat : Int)] 89 (0, 0))
  tab : wr.heap[w0.heap.size + 1 + 1 + 1]? = some (.cells #[.string nm, v, .int .i64 ks] 54 (0, 0))
  lit : k = 0 → v = .slice (some ⟨w0.heap.size + 1 + 1, 0, none⟩) 1 1 ∧ wr.heap[w0.heap.size + 1 + 1]? = some (.cells #[.string (one 97), .int .u8 1, .bool false] 91 (0, 0))
  own : 0 < k → Ow tCol 91 wr (fun b => w0.heap.size + 4 ≤ b) v (colsN f 0 0 k)
  fr : Fr No w0 wr
  sz : w0.heap.size + 4 ≤ wr.heap.size
theorem colI_start {f : Frm} {m : Nat} {RR : Option Addr} {cc : Nat} {nm : ByteArray} {w0 : World} {o : Obj} :
    ColI f m RR cc nm w0 ((((w0.alloc (.cells #[.slice RR m cc, .int .u8 (f.2.toNat : Int)] 89)).alloc o).alloc (.cells #[.string (one 97), .int .u8 1, .bool false] 91)).alloc (.cells #[.string nm, .slice (some ⟨w0.heap.size + 1 + 1, 0, none⟩) 1 1, .int .i64 1] 54)) 0 (.slice (some ⟨w0.heap.size + 1 + 1, 0, none⟩) 1 1) 1 where
  form := by rw [Below.heap_alloc _ _ _ (by simp; omega), Below.heap_alloc _ _ _ (by simp; omega), Below.heap_alloc _ _ _ (by simp)]; exact heap_alloc_new _ _
  tab := by
    have := heap_alloc_new (((w0.alloc (.cells #[.slice RR m cc, .int .u8 (f.2.toNat : Int)] 89)).alloc o).alloc (.cells #[.string (one 97), .int .u8 1, .bool false] 91)) (.cells #[.string nm, .slice (some ⟨w0.heap.size + 1 + 1, 0, none⟩) 1 1, .int .i64 1] 54)
    simp only [World.size_alloc] at this
    exact this
  lit := fun _ => ⟨rfl, by
    rw [Below.heap_alloc _ _ _ (by simp)]
    have := heap_alloc_new ((w0.alloc (.cells #[.slice RR m cc, .int .u8 (f.2.toNat : Int)] 89)).alloc o) (.cells #[.string (one 97), .int .u8 1, .bool false] 91)
    simp only [World.size_alloc] at this
    exact this⟩
  own := fun h => absurd h (Nat.lt_irrefl _)
  fr := ((((Fr.refl No w0).alloc _).alloc _).alloc _).alloc _
  sz := by simp
/-- A form's columns, as far as told which may be nothing. -/
def colsJ (f : Frm) (ks j : Nat) : List Col := if f.1 = [] then [(one 97, 1, false)] else colsN f ks j (wideF f)
theorem colsJ_len (f : Frm) (ks j : Nat) : (colsJ f ks j).length = max (wideF f) 1 := by
  unfold colsJ wideF
  by_cases h : f.1 = []
  · rw [if_pos h, h]; rfl
  · have := List.length_pos_iff.2 h
    rw [if_neg h, colsN_len]; omega
theorem ow_lit {w : World} {g : Nat} {e : TypeId} {x : Col} {F : Nat → Prop} (hF : F g) (h : w.heap[g]? = some (.cells #[.string x.1, .int .u8 (x.2.1.toNat : Int), .bool x.2.2] e (0, 0))) : Ow tCol e w F (.slice (some ⟨g, 0, none⟩) 1 1) [x] :=
  ⟨colC x, ⟨rfl, .inr ⟨g, 1, _, rfl, Nat.zero_le _, h, Nat.le_refl _, by decide, rfl, rfl⟩⟩, row_col.2 (by simp), fun k hk => by
    have he : g = k := Option.some.inj hk
    rw [← he]; exact hF⟩
theorem colI_end {f : Frm} {m : Nat} {RR : Option Addr} {cc : Nat} {nm : ByteArray} {w0 wr : World} {v : Value} {z : Int} {wd : Nat} (ks : Nat) (h : ColI f m RR cc nm w0 wr wd v z) (hwd : wideF f = wd) :
    ∃ g cv, v = .slice (some ⟨g, 0, none⟩) (max wd 1) cv ∧ max wd 1 ≤ cv ∧ Ow tCol 91 wr (fun b => b = w0.heap.size + 2 ∨ w0.heap.size + 4 ≤ b) v (colsJ f ks ks) := by
  subst hwd
  by_cases h0 : f.1 = []
  · have hw0 : wideF f = 0 := by unfold wideF; rw [h0]; rfl
    obtain ⟨rfl, hb⟩ := h.lit hw0
    refine ⟨_, 1, by rw [hw0]; rfl, by rw [hw0]; exact Nat.le_refl _, ?_⟩
    unfold colsJ
    rw [if_pos h0]
    exact ow_lit (.inl rfl) hb
  · have h1 : 0 < wideF f := by have := List.length_pos_iff.2 h0; unfold wideF; omega
    have ho := h.own h1
    obtain ⟨A, cv, rfl, hc, _⟩ := ho.slice
    obtain ⟨cs, q1, q2, q3⟩ := ho
    rw [colsN_len] at q1
    rcases q1.2 with ⟨_, q4⟩ | ⟨g, cap, cur, he, _⟩
    · omega
    · rw [colsN_len] at hc ⊢
      injection he with e1 e2 e3
      subst e1
      refine ⟨g, cv, by rw [show max (wideF f) 1 = wideF f by omega], by omega, ?_⟩
      unfold colsJ
      rw [if_neg h0, ← colsN_start f 0 ks ks (wideF f) (Nat.le_refl _)]
      have := h.own h1
      rw [colsN_len] at this
      exact this.mono fun b hb _ => .inr hb
theorem colsJ_next {f : Frm} {ks k : Nat} (hk : k < max (wideF f) 1) (hks : ks ≤ k) (hk1 : 1 ≤ ks) {x : Col} (hx : x = (nameF k, 1 + f.1.getD k 0 % 2, nullF f k)) : f.1 ≠ [] ∧ k < wideF f ∧ (colsJ f ks k).set k x = colsJ f ks (k + 1) := by
  have h0 : f.1 ≠ [] := fun h => by
    have : wideF f = 0 := by unfold wideF; rw [h]; rfl
    omega
  have h1 : k < wideF f := by omega
  refine ⟨h0, h1, ?_⟩
  unfold colsJ
  rw [if_neg h0, if_neg h0, colsN_next h1 hks hx]
theorem colsJ_row {w w' : World} {F : Nat → Prop} {f : Frm} {ks j : Nat} {cs : List Value} (hk : j < max (wideF f) 1) (hks : ks ≤ j) (hk1 : 1 ≤ ks) (hr : Row tCol w F (colsJ f ks j) cs) : Row tCol w' F (colsJ f ks (j + 1)) (cs.set (j * 3 + 2) (.bool (nullF f j))) := by
  obtain ⟨h0, h1, _⟩ := colsJ_next hk hks hk1 rfl
  unfold colsJ at hr ⊢
  rw [if_neg h0] at hr ⊢
  rw [row_col] at hr ⊢
  have hjl : j < (colsN f ks j (wideF f)).length := by rw [colsN_len]; exact h1
  have hx := colsN_get hjl
  have hs := colsN_next (f := f) (ks := ks) h1 hks (x := ((colsN f ks j (wideF f))[j].1, (colsN f ks j (wideF f))[j].2.1, nullF f j)) (by rw [hx])
  rw [hr, col_set _ _ _ hjl, hs]
theorem tabF_eq (i : Nat) (f : Frm) : tabF i f = (two 116 (UInt8.ofNat (48 + i)), colsJ f (keysF f) (max (wideF f) 1), (keysF f : Int)) := by
  unfold tabF colsJ
  by_cases h : f.1 = []
  · rw [if_pos h, if_pos h]
  · have h1 : 0 < wideF f := by have := List.length_pos_iff.2 h; unfold wideF; omega
    rw [if_neg h, if_neg h, show max (wideF f) 1 = wideF f by omega]
/-- A text of one byte. -/
theorem run_one_b (w' : World) (g : Nat) (a : UInt8) {x : Int} (hx : x = (a.toNat : Int)) (hb : w'.heap[g]? = some (.cells #[.int .u8 x] 5 (0, 0))) : (convert 46 9 (.slice (some ⟨g, 0, none⟩) 1 1)).run Tryz.prog w' = .ok (.string (one a)) w' := by
  subst hx
  have hrd : Rd Ty.u8 w' (fun _ => True) (some ⟨g, 0, none⟩) [a] := ⟨by simp, _, row_bytes [a], fun j v hv => ⟨_, rfl, trivial, by rw [add0, blk_cell hb, ← Array.getElem?_toList]; exact hv⟩⟩
  exact run_str (c := 1) (n := 1) hrd rfl
theorem info_col : (Tryz.prog.info? 91).map (fun i => (i.zero, i.size, i.bytes)) = some (some (.agg #[.string ⟨#[]⟩, .int .u8 0, .bool false]), 3, 24) := by kernel_rfl
theorem kind_toNat (b : UInt8) : (1 : Int) + (b.toNat : Int) % 2 = ((1 + b % 2 : UInt8).toNat : Int) := by
  rw [UInt8.toNat_add, UInt8.toNat_mod]
  have h1 : (1 : UInt8).toNat = 1 := rfl
  have h2 : (2 : UInt8).toNat = 2 := rfl
  rw [h1, h2]
  omega
end Go.Proofs.YtlmhphejgahfbaaGreatDoor
