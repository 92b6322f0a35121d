/- Texts of this claim, one behind the other: OkL, Range, RangeI. -/
import Derived.Test.YtlmhphejgahfbaaGreatDoorMrowledgernil26
import Derived.Test.YtlmhphejgahfbaaGreatDoorMrowledgernil31
import Derived.Test.YtlmhphejgahfbaaGreatDoorMrowledgernil4
import Derived.Maps.RangeWalk
import Derived.Test.YtlmhphejgahfbaaGreatDoorMrowledgernil24
/- Layer 15 (ledger): few things stay few: New, Begin, Put; the document's example, in plain words. -/
set_option linter.unusedVariables false
set_option linter.unusedSimpArgs false
namespace Go.Proofs.YtlmhphejgahfbaaGreatDoor
open Go.RowKit

theorem Led.Ok.new {tabs : List Tab} (h : TabsOk tabs) (m : Nat) : (Led.new tabs).Ok m where
  tabs := h
  sto := ⟨Int.le_refl _, Int.natCast_nonneg _, Nat.zero_le _, fun p hp => (by cases hp), fun p hp => (by cases hp)⟩
  next0 := Int.le_refl _
  next1 := Int.natCast_nonneg _
  ids := fun x hx => by cases hx
  once := List.nodup_nil
  base := fun x hx => by cases hx
  ws := fun x hx => by cases hx
  rise := fun x hx => by cases hx
  sts := ⟨Nat.le_refl _, (show 1 ≤ 6 by decide)⟩
  st := fun x hx => by
    obtain rfl : x = _ := List.mem_singleton.1 hx
    exact ⟨sha_size _, sha_size _, sha_size _, TrOk.nil 0 (by decide), Nat.zero_le _⟩
theorem Led.Ok.begin_ {L : Led} {m : Nat} (h : L.Ok m) (hm : L.next + 1 ≤ m) : L.begin_.Ok m where
  tabs := h.tabs
  sto := h.sto
  next0 := by have := h.next0; show 0 ≤ L.next + 1; omega
  next1 := hm
  ids := fun x hx => by
    have h0 := h.next0
    show 1 ≤ x.id ∧ x.id ≤ L.next + 1
    rcases List.mem_append.1 hx with hx | hx
    · have := h.ids x hx; omega
    · obtain rfl : x = _ := List.mem_singleton.1 hx
      dsimp only; omega
  once := by
    show ((L.txs ++ [_]).map LTx.id).Nodup
    rw [List.map_append]
    refine List.nodup_append.2 ⟨h.once, by simp, fun a ha b hb => ?_⟩
    obtain ⟨x, hx, rfl⟩ := List.mem_map.1 ha
    obtain rfl : b = L.next + 1 := by simpa using hb
    have := (h.ids x hx).2
    omega
  base := fun x hx => by
    rcases List.mem_append.1 hx with hx | hx
    · exact h.base x hx
    · obtain rfl : x = _ := List.mem_singleton.1 hx
      exact ⟨h.sto.now0, Int.le_refl _⟩
  ws := fun x hx => by
    rcases List.mem_append.1 hx with hx | hx
    · exact h.ws x hx
    · obtain rfl : x = _ := List.mem_singleton.1 hx
      exact ⟨Nat.zero_le _, fun y hy => (by cases hy)⟩
  rise := fun x hx => by
    rcases List.mem_append.1 hx with hx | hx
    · exact h.rise x hx
    · obtain rfl : x = _ := List.mem_singleton.1 hx
      exact List.Pairwise.nil
  sts := h.sts
  st := h.st
theorem Led.Ok.setTx {L : Led} {m : Nat} {id : Int} {ws : List Wr} (h : L.Ok m) (h1 : ws.length ≤ 20 ∧ ∀ y ∈ ws, 1 ≤ y.key.size ∧ y.key.size ≤ 1000 ∧ y.row.length ≤ 4000 ∧ (y.gone = true → y.row = [])) (h2 : Rising (ws.map Wr.key)) : (L.setTx id ws).Ok m := by
  have hmem : ∀ x ∈ (L.setTx id ws).txs, ∃ y ∈ L.txs, x.id = y.id ∧ x.base = y.base ∧ (x.ws = y.ws ∨ x.ws = ws) := fun x hx => by
    obtain ⟨y, hy, rfl⟩ := List.mem_map.1 hx
    refine ⟨y, hy, ?_⟩
    split
    · exact ⟨rfl, rfl, .inr rfl⟩
    · exact ⟨rfl, rfl, .inl rfl⟩
  refine ⟨h.tabs, h.sto, h.next0, h.next1, fun x hx => ?_, ?_, fun x hx => ?_, fun x hx => ?_, fun x hx => ?_, h.sts, h.st⟩
  · obtain ⟨y, hy, a, b, c⟩ := hmem x hx
    rw [a]; exact h.ids y hy
  · have : (L.setTx id ws).txs.map LTx.id = L.txs.map LTx.id := by
      unfold Led.setTx
      rw [List.map_map]
      refine List.map_congr_left fun x _ => ?_
      show (if x.id = id then { x with ws := ws } else x).id = x.id
      split <;> rfl
    rw [this]; exact h.once
  · obtain ⟨y, hy, a, b, c⟩ := hmem x hx
    rw [b]; exact h.base y hy
  · obtain ⟨y, hy, a, b, c⟩ := hmem x hx
    rcases c with c | c
    · rw [c]; exact h.ws y hy
    · rw [c]; exact h1
  · obtain ⟨y, hy, a, b, c⟩ := hmem x hx
    rcases c with c | c
    · rw [c]; exact h.rise y hy
    · rw [c]; exact h2
/-- A number's row in the one table. -/
def numW (n : Int) : Wr := rowW 0 1 [vI n]
theorem numFits (n : Int) (h0 : -9223372036854775808 ≤ n) (h1 : n < 9223372036854775808) : RowFits [tab0] 0 1 [vI n] where
  lt := by decide
  few := by decide
  keys := rfl
  len := rfl
  kle := Nat.le_refl 1
  le8 := (show 1 ≤ 8 by decide)
  fits := fun i h h' => by
    obtain rfl : i = 0 := by have : i < 1 := h; omega
    exact valFits_int n rfl
  good := fun v hv => by
    obtain rfl : v = _ := List.mem_singleton.1 hv
    exact good_int n h0 h1
theorem numW_fine (n : Int) : 1 ≤ (numW n).key.size ∧ (numW n).key.size ≤ 1000 ∧ (numW n).row.length ≤ 4000 ∧ ((numW n).gone = true → (numW n).row = []) := by
  have hk : (numW n).key.size = 10 := by
    show ((UInt8.ofNat 0 :: [vI n].flatMap oneB).toArray).size = 10
    rw [List.size_toArray, List.length_cons]
    show ([vI n].flatMap oneB).length + 1 = 10
    rw [show [vI n].flatMap oneB = 2 :: beN (keyN n) 8 ++ [] from rfl, List.append_nil, List.length_cons, beN_len]
  have hr : (numW n).row.length = 10 := by
    show (UInt8.ofNat 1 :: [vI n].flatMap encB).length = 10
    rw [List.length_cons, show [vI n].flatMap encB = 1 :: beN (n % 18446744073709551616).toNat 8 ++ [] from rfl, List.append_nil, List.length_cons, beN_len]
  refine ⟨by omega, by omega, by omega, fun h => by cases h⟩
/-- The example's ledger, ahead of its commit. -/
def onceL : Led := (Led.new [tab0]).begin_.setTx 1 [numW 5]
theorem onceL_ok : onceL.Ok 4 := ((Led.Ok.new tab0_ok 4).begin_ (by decide)).setTx ⟨by decide, fun y hy => by obtain rfl : y = _ := List.mem_singleton.1 hy; exact numW_fine 5⟩ (by simp [Rising])
theorem onceL_find : onceL.find 1 = some ⟨1, 0, [numW 5]⟩ := rfl
theorem onceL_form : onceL.formN [1] 1 = ([0], [numW 5]) := by
  have h : (1 : Nat) = 0 + 1 := rfl
  have hb : onceL.bars ⟨1, 0, [numW 5]⟩ (onceL.formN [1] 0).2 = false := rfl
  exact formN_ok (L := onceL) (ids := [1]) (k := 0) (by decide) onceL_find (by simp) hb
theorem once_out {ys : List Wr} (h : ys.Perm (onceL.formN [1] 1).2) : (onceL.publish ys [1]).s.now = 1 ∧ ∃ x, (onceL.publish ys [1]).sts = [⟨firstD, dE, sha [], .nil⟩, x] := by
  rw [onceL_form] at h
  obtain rfl : ys = [numW 5] := List.perm_singleton.1 h
  exact ⟨rfl, _, rfl⟩
end Go.Proofs.YtlmhphejgahfbaaGreatDoor
/- 'for _, v := range m' of a map keyed by texts: what has come, in whichever order. -/
set_option linter.unusedVariables false
set_option linter.unusedSimpArgs false
namespace Go.Proofs.YtlmhphejgahfbaaGreatDoor
open Go.RowKit Go.MapKept
open Go.ChangeMaps (setBlock)

def encP (p : ByteArray × Value) : Value × Value := (Value.string p.1, p.2)
def encE (e : MapEntry) : Value × Value := (e.key, e.val)
theorem encP_inj {p q : ByteArray × Value} (h : encP p = encP q) : p = q := by
  unfold encP at h
  injection h with h1 h2
  injection h1 with h1
  exact Prod.ext h1 h2
theorem perm_of_map {α β : Type} {f : α → β} (hf : ∀ x y, f x = f y → x = y) {l m : List α} (h : (l.map f).Perm (m.map f)) : l.Perm m := by
  induction l generalizing m with
  | nil => rw [List.map_nil] at h; have := h.length_eq; simp at this; rw [List.eq_nil_of_length_eq_zero this.symm]
  | cons a l ih =>
    have ha : f a ∈ m.map f := h.subset (by simp)
    obtain ⟨b, hb, e⟩ := List.mem_map.1 ha
    obtain rfl := hf _ _ e
    obtain ⟨s, t, rfl⟩ := List.append_of_mem hb
    rw [List.map_append, List.map_cons, List.map_cons] at h
    have h2 := (h.trans List.perm_middle).cons_inv
    rw [← List.map_append] at h2
    exact (ih h2).cons _ |>.trans List.perm_middle.symm

/-- Under way: done has come (each once); r is the iterator's block. -/
def Ranging (w : World) (mb r : Nat) (l done : List (ByteArray × Value)) : Prop :=
  ∃ es clock since seen c0, w.heap[mb]? = some (.map es clock) ∧ Es es clock l ∧ w.heap[r]? = some (.mapIter (some mb) since seen c0) ∧ (∀ x ∈ es.toList, x.born < since) ∧ since ≤ c0 ∧ since ≤ clock ∧
    (done.map encP ++ (leftOf es seen).toList.map encE).Perm (l.map encP)

theorem Ranging.stab {w w' : World} {mb r : Nat} {l done : List (ByteArray × Value)} (h : Ranging w mb r l done) (h1 : w'.heap[mb]? = w.heap[mb]?) (h2 : w'.heap[r]? = w.heap[r]?) : Ranging w' mb r l done := by
  obtain ⟨es, clock, since, seen, c0, a1, a2, a3, a4⟩ := h
  exact ⟨es, clock, since, seen, c0, h1.trans a1, a2, h2.trans a3, a4⟩
theorem Ranging.lt {w : World} {mb r : Nat} {l done : List (ByteArray × Value)} (h : Ranging w mb r l done) : mb < w.heap.size ∧ r < w.heap.size ∧ r ≠ mb := by
  obtain ⟨es, clock, since, seen, c0, a1, a2, a3, a4⟩ := h
  refine ⟨blk_lt a1, blk_lt a3, ?_⟩
  rintro rfl
  rw [a1] at a3
  cases a3
theorem Ranging.len {w : World} {mb r : Nat} {l done : List (ByteArray × Value)} (h : Ranging w mb r l done) : done.length ≤ l.length := by
  obtain ⟨es, clock, since, seen, c0, a1, a2, a3, a4, a5, a6, a7⟩ := h
  have := a7.length_eq
  simp at this; omega
theorem Ranging.fr {S : Nat → Prop} {w w' : World} {mb r : Nat} {l done : List (ByteArray × Value)} (h : Ranging w mb r l done) (f : Fr S w w') (h1 : ¬ S mb) (h2 : ¬ S r) : Ranging w' mb r l done :=
  h.stab (f.block _ h.lt.1 h1) (f.block _ h.lt.2.1 h2)
theorem Ranging.mem {w : World} {mb r : Nat} {l done : List (ByteArray × Value)} (h : Ranging w mb r l done) : ∀ p ∈ done, p ∈ l := by
  obtain ⟨es, clock, since, seen, c0, a1, a2, a3, a4, a5, a6, a7⟩ := h
  intro p hp
  have : encP p ∈ l.map encP := a7.subset (List.mem_append_left _ (List.mem_map_of_mem hp))
  obtain ⟨q, hq, e⟩ := List.mem_map.1 this
  rwa [← encP_inj e]

theorem Ranging.left {w : World} {mb r : Nat} {l done : List (ByteArray × Value)} (h : Ranging w mb r l done) : w.rangeLeft mb r + done.length = l.length := by
  obtain ⟨es, clock, since, seen, c0, a1, a2, a3, a4, a5, a6, a7⟩ := h
  have := a7.length_eq
  simp only [World.rangeLeft, a1, a3]
  simp at this; omega

section
variable {P : Program} {w : World}
theorem run_range_mapIs {mb : Nat} {l : List (ByteArray × Value)} (h : MapIs w mb l) (t k e : TypeId) (ht : P.underlying t = some (.map k e)) :
    ∃ w', (Instr.range t (.map (some mb))).run P w = .ok (.pointer (some ⟨w.heap.size, 0, none⟩)) w' ∧ Ranging w' mb w.heap.size l [] ∧ Fr No w w' ∧ w'.heap.size = w.heap.size + 1 := by
  obtain ⟨es, clock, hb, he⟩ := h
  refine ⟨_, run_range_map w t k e mb es clock ht hb, ⟨es, clock, clock, #[], clock, (Below.heap_alloc _ _ mb (blk_lt hb)).trans hb, he, heap_alloc_new w _, he.st.1, Nat.le_refl _, Nat.le_refl _, ?_⟩, (Fr.refl No w).alloc _, by simp⟩
  have : (leftOf es #[]).toList = es.toList := by simp [leftOf]
  rw [this, List.map_nil, List.nil_append]
  have e := he.ents
  rw [show es.toList.map encE = l.map encP from e]

theorem filter_push {es : List MapEntry} {seen : Array Nat} {e : MapEntry} (hn : (es.map (·.born)).Nodup) (he : e ∈ es) (hs : seen.contains e.born = false) :
    (es.filter fun x => !seen.contains x.born).Perm (e :: es.filter fun x => !(seen.push e.born).contains x.born) := by
  induction es with
  | nil => cases he
  | cons x es ih =>
    rw [List.map_cons, List.nodup_cons] at hn
    rcases List.mem_cons.1 he with rfl | he
    · have e1 : (es.filter fun x => !(seen.push e.born).contains x.born) = es.filter fun x => !seen.contains x.born := by
        refine List.filter_congr fun y hy => ?_
        have : ¬ y.born = e.born := fun h => hn.1 (h ▸ List.mem_map_of_mem hy)
        have h2 : ¬ e.born = y.born := fun h => this h.symm
        simp [Array.mem_push, h2, this]
      rw [List.filter_cons, List.filter_cons, e1]
      have hs2 : ¬ e.born ∈ seen := by simpa using hs
      simp [hs2]
    · have := ih hn.2 he
      have hne : ¬ x.born = e.born := fun h => hn.1 (h ▸ List.mem_map_of_mem he)
      have hne2 : ¬ e.born = x.born := fun h => hne h.symm
      rw [List.filter_cons, List.filter_cons]
      have e2 : (seen.push e.born).contains x.born = seen.contains x.born := by
        rw [Bool.eq_iff_iff]; simp [Array.mem_push, hne, hne2]
      rw [e2]
      cases seen.contains x.born
      · simp only [Bool.not_false, if_true]
        exact (this.cons x).trans (List.Perm.swap _ _ _)
      · simpa using this

/-- One step: it is over, or one more has come. -/
theorem Ranging.next {mb r : Nat} {l done : List (ByteArray × Value)} (h : Ranging w mb r l done) (ty : TypeId) :
    (done.Perm l ∧ (Instr.next (.pointer (some ⟨r, 0, none⟩)) false ty).run P w = .ok (.tuple #[.bool false]) w) ∨
    ∃ p w', p ∈ l ∧ (Instr.next (.pointer (some ⟨r, 0, none⟩)) false ty).run P w = .ok (.tuple #[.bool true, .string p.1, p.2]) w' ∧ Ranging w' mb r l (done ++ [p]) ∧ Fr (fun i => i = r) w w' ∧ w'.heap.size = w.heap.size ∧
      (Instr.entry (.pointer (some ⟨r, 0, none⟩))).run P w' = .ok (.tuple #[.string p.1, p.2]) w' := by
  have hne := h.lt.2.2
  obtain ⟨es, clock, since, seen, c0, a1, a2, a3, a4, a5, a6, a7⟩ := h
  rcases run_next_at (P := P) w ty r mb since c0 seen es clock a3 a1 a4 a5 with ⟨h0, hrun⟩ | ⟨e, he, w1, hal, hrun⟩
  · refine .inl ⟨?_, hrun⟩
    have : (leftOf es seen).toList = [] := List.eq_nil_of_length_eq_zero (by simpa using h0)
    rw [this, List.map_nil, List.append_nil] at a7
    exact perm_of_map (fun _ _ => encP_inj) a7
  · obtain ⟨hem, hes⟩ := mem_left he
    have hk : (e.key, e.val) ∈ l.map encP := by
      have := a2.ents
      rw [show l.map encP = es.toList.map encE from this.symm]
      exact List.mem_map_of_mem (f := encE) hem
    obtain ⟨p, hp, hpe⟩ := List.mem_map.1 hk
    have e1 : e.key = .string p.1 := by have := congrArg Prod.fst hpe; exact this.symm
    have e2 : e.val = p.2 := by have := congrArg Prod.snd hpe; exact this.symm
    have hr1 : w1.heap[r]? = some (.mapIter (some mb) since seen c0) := by rcases hal with rfl | rfl <;> exact a3
    have hb1 : w1.heap[mb]? = some (.map es clock) := by rcases hal with rfl | rfl <;> exact a1
    have hset := heap_set (o' := .mapIter (some mb) since (seen.push e.born) clock) hr1
    have hb' : (setBlock w1 r (.mapIter (some mb) since (seen.push e.born) clock)).heap[mb]? = some (.map es clock) := (hset.2 mb (fun e1 => hne e1.symm)).trans hb1
    have hent := run_entry_at (P := P) _ r mb since seen es clock e hset.1 hb' hem ((stamped_iff es clock).1 a2.st).2.1
    rw [e1, e2] at hent hrun
    refine .inr ⟨p, _, hp, hrun, ⟨es, clock, since, seen.push e.born, clock, hb', a2, hset.1, a4, a6, a6, ?_⟩, ?_, ?_, hent⟩
    · have hf := filter_push ((stamped_iff es clock).1 a2.st).2.1 hem (by simpa using hes)
      have hl : (leftOf es seen).toList = es.toList.filter fun x => !seen.contains x.born := by unfold leftOf; rw [Array.toList_filter]
      have hl' : (leftOf es (seen.push e.born)).toList = es.toList.filter fun x => !(seen.push e.born).contains x.born := by unfold leftOf; rw [Array.toList_filter]
      rw [hl] at a7
      rw [hl']
      refine List.Perm.trans ?_ a7
      have hpE : encP p = encE e := hpe
      rw [List.map_append, List.map_cons, List.map_nil, hpE, List.append_assoc]
      refine List.Perm.append_left _ ?_
      exact ((hf.map encE).symm)
    · rcases hal with rfl | rfl <;> exact ⟨rfl, rfl, rfl, by simp [setBlock], fun i _ hi => hset.2 i hi⟩
    · rcases hal with rfl | rfl <;> simp [setBlock]

variable {ops : Array Oper} {rest : List Oper} {o : Oper} {a : Act} {Q : Exit → Act → World → Prop}
theorem wpList_mapIs_range (hg : o.guard = none) (m : Operand) (t : TypeId) (hop : o.op = Op.range t m) (k e : TypeId) (ht : P.underlying t = some (.map k e)) {mb : Nat} {l : List (ByteArray × Value)}
    (hm : a.eval m = .map (some mb)) (h : MapIs w mb l)
    (hK : ∀ w', Ranging w' mb w.heap.size l [] → Fr No w w' → w'.heap.size = w.heap.size + 1 → wpList P ops Q rest (a.put o.dst (.pointer (some ⟨w.heap.size, 0, none⟩))) w') :
    wpList P ops Q (o :: rest) a w := by
  refine wpList_plain hg fun K' hK' => ?_
  obtain ⟨w', hrun, r1, r2, r3⟩ := run_range_mapIs (P := P) h t k e ht
  unfold Oper.wp
  simp [execOp, hop, hm, hrun, Result.andThen]
  exact hK' _ _ (hK w' r1 r2 r3)
theorem wpList_mapIs_next (hg : o.guard = none) (it : Operand) (hop : o.op = Op.next it false) {mb r : Nat} {l done : List (ByteArray × Value)} (hit : a.eval it = .pointer (some ⟨r, 0, none⟩)) (h : Ranging w mb r l done)
    (hDone : done.Perm l → wpList P ops Q rest (a.put o.dst (.tuple #[.bool false])) w)
    (hMore : ∀ p w', p ∈ l → Ranging w' mb r l (done ++ [p]) → Fr (fun i => i = r) w w' → w'.heap.size = w.heap.size → (Instr.entry (.pointer (some ⟨r, 0, none⟩))).run P w' = .ok (.tuple #[.string p.1, p.2]) w' → wpList P ops Q rest (a.put o.dst (.tuple #[.bool true, .string p.1, p.2])) w') :
    wpList P ops Q (o :: rest) a w := by
  refine wpList_plain hg fun K' hK' => ?_
  unfold Oper.wp
  rcases h.next (P := P) o.type with ⟨hp, hrun⟩ | ⟨p, w', hp, hrun, h1, h2, h3, h4⟩
  · simp [execOp, hop, hit, hrun, Result.andThen]
    exact hK' _ _ (hDone hp)
  · simp [execOp, hop, hit, hrun, Result.andThen]
    exact hK' _ _ (hMore p w' hp h1 h2 h3 h4)
end
end Go.Proofs.YtlmhphejgahfbaaGreatDoor
/- 'for _, v := range m' of a map keyed by ints (printed by genrangei.py): what has come, in whichever order. -/
set_option linter.unusedVariables false
set_option linter.unusedSimpArgs false
namespace Go.Proofs.YtlmhphejgahfbaaGreatDoor
open Go.RowKit Go.MapKept
open Go.ChangeMaps (setBlock)

def encPI (p : Int × Value) : Value × Value := (Value.int .i64 p.1, p.2)
def encEI (e : MapEntry) : Value × Value := (e.key, e.val)
theorem encP_injI {p q : Int × Value} (h : encPI p = encPI q) : p = q := by
  unfold encPI at h
  injection h with h1 h2
  injection h1 with _ h1
  exact Prod.ext h1 h2

/-- Under way: done has come (each once); r is the iterator's block. -/
def RangingI (w : World) (mb r : Nat) (l done : List (Int × Value)) : Prop :=
  ∃ es clock since seen c0, w.heap[mb]? = some (.map es clock) ∧ EsI es clock l ∧ w.heap[r]? = some (.mapIter (some mb) since seen c0) ∧ (∀ x ∈ es.toList, x.born < since) ∧ since ≤ c0 ∧ since ≤ clock ∧
    (done.map encPI ++ (leftOf es seen).toList.map encEI).Perm (l.map encPI)

theorem RangingI.stab {w w' : World} {mb r : Nat} {l done : List (Int × Value)} (h : RangingI w mb r l done) (h1 : w'.heap[mb]? = w.heap[mb]?) (h2 : w'.heap[r]? = w.heap[r]?) : RangingI w' mb r l done := by
  obtain ⟨es, clock, since, seen, c0, a1, a2, a3, a4⟩ := h
  exact ⟨es, clock, since, seen, c0, h1.trans a1, a2, h2.trans a3, a4⟩
theorem RangingI.lt {w : World} {mb r : Nat} {l done : List (Int × Value)} (h : RangingI w mb r l done) : mb < w.heap.size ∧ r < w.heap.size ∧ r ≠ mb := by
  obtain ⟨es, clock, since, seen, c0, a1, a2, a3, a4⟩ := h
  refine ⟨blk_lt a1, blk_lt a3, ?_⟩
  rintro rfl
  rw [a1] at a3
  cases a3
theorem RangingI.len {w : World} {mb r : Nat} {l done : List (Int × Value)} (h : RangingI w mb r l done) : done.length ≤ l.length := by
  obtain ⟨es, clock, since, seen, c0, a1, a2, a3, a4, a5, a6, a7⟩ := h
  have := a7.length_eq
  simp at this; omega
theorem RangingI.fr {S : Nat → Prop} {w w' : World} {mb r : Nat} {l done : List (Int × Value)} (h : RangingI w mb r l done) (f : Fr S w w') (h1 : ¬ S mb) (h2 : ¬ S r) : RangingI w' mb r l done :=
  h.stab (f.block _ h.lt.1 h1) (f.block _ h.lt.2.1 h2)
theorem RangingI.mem {w : World} {mb r : Nat} {l done : List (Int × Value)} (h : RangingI w mb r l done) : ∀ p ∈ done, p ∈ l := by
  obtain ⟨es, clock, since, seen, c0, a1, a2, a3, a4, a5, a6, a7⟩ := h
  intro p hp
  have : encPI p ∈ l.map encPI := a7.subset (List.mem_append_left _ (List.mem_map_of_mem hp))
  obtain ⟨q, hq, e⟩ := List.mem_map.1 this
  rwa [← encP_injI e]

theorem RangingI.left {w : World} {mb r : Nat} {l done : List (Int × Value)} (h : RangingI w mb r l done) : w.rangeLeft mb r + done.length = l.length := by
  obtain ⟨es, clock, since, seen, c0, a1, a2, a3, a4, a5, a6, a7⟩ := h
  have := a7.length_eq
  simp only [World.rangeLeft, a1, a3]
  simp at this; omega

section
variable {P : Program} {w : World}
theorem run_range_mapII {mb : Nat} {l : List (Int × Value)} (h : MapII w mb l) (t k e : TypeId) (ht : P.underlying t = some (.map k e)) :
    ∃ w', (Instr.range t (.map (some mb))).run P w = .ok (.pointer (some ⟨w.heap.size, 0, none⟩)) w' ∧ RangingI w' mb w.heap.size l [] ∧ Fr No w w' ∧ w'.heap.size = w.heap.size + 1 := by
  obtain ⟨es, clock, hb, he⟩ := h
  refine ⟨_, run_range_map w t k e mb es clock ht hb, ⟨es, clock, clock, #[], clock, (Below.heap_alloc _ _ mb (blk_lt hb)).trans hb, he, heap_alloc_new w _, he.st.1, Nat.le_refl _, Nat.le_refl _, ?_⟩, (Fr.refl No w).alloc _, by simp⟩
  have : (leftOf es #[]).toList = es.toList := by simp [leftOf]
  rw [this, List.map_nil, List.nil_append]
  have e := he.ents
  rw [show es.toList.map encEI = l.map encPI from e]


/-- One step: it is over, or one more has come. -/
theorem RangingI.next {mb r : Nat} {l done : List (Int × Value)} (h : RangingI w mb r l done) (ty : TypeId) :
    (done.Perm l ∧ (Instr.next (.pointer (some ⟨r, 0, none⟩)) false ty).run P w = .ok (.tuple #[.bool false]) w) ∨
    ∃ p w', p ∈ l ∧ (Instr.next (.pointer (some ⟨r, 0, none⟩)) false ty).run P w = .ok (.tuple #[.bool true, .int .i64 p.1, p.2]) w' ∧ RangingI w' mb r l (done ++ [p]) ∧ Fr (fun i => i = r) w w' ∧ w'.heap.size = w.heap.size ∧
      (Instr.entry (.pointer (some ⟨r, 0, none⟩))).run P w' = .ok (.tuple #[.int .i64 p.1, p.2]) w' := by
  have hne := h.lt.2.2
  obtain ⟨es, clock, since, seen, c0, a1, a2, a3, a4, a5, a6, a7⟩ := h
  rcases run_next_at (P := P) w ty r mb since c0 seen es clock a3 a1 a4 a5 with ⟨h0, hrun⟩ | ⟨e, he, w1, hal, hrun⟩
  · refine .inl ⟨?_, hrun⟩
    have : (leftOf es seen).toList = [] := List.eq_nil_of_length_eq_zero (by simpa using h0)
    rw [this, List.map_nil, List.append_nil] at a7
    exact perm_of_map (fun _ _ => encP_injI) a7
  · obtain ⟨hem, hes⟩ := mem_left he
    have hk : (e.key, e.val) ∈ l.map encPI := by
      have := a2.ents
      rw [show l.map encPI = es.toList.map encEI from this.symm]
      exact List.mem_map_of_mem (f := encEI) hem
    obtain ⟨p, hp, hpe⟩ := List.mem_map.1 hk
    have e1 : e.key = .int .i64 p.1 := by have := congrArg Prod.fst hpe; exact this.symm
    have e2 : e.val = p.2 := by have := congrArg Prod.snd hpe; exact this.symm
    have hr1 : w1.heap[r]? = some (.mapIter (some mb) since seen c0) := by rcases hal with rfl | rfl <;> exact a3
    have hb1 : w1.heap[mb]? = some (.map es clock) := by rcases hal with rfl | rfl <;> exact a1
    have hset := heap_set (o' := .mapIter (some mb) since (seen.push e.born) clock) hr1
    have hb' : (setBlock w1 r (.mapIter (some mb) since (seen.push e.born) clock)).heap[mb]? = some (.map es clock) := (hset.2 mb (fun e1 => hne e1.symm)).trans hb1
    have hent := run_entry_at (P := P) _ r mb since seen es clock e hset.1 hb' hem ((stamped_iff es clock).1 a2.st).2.1
    rw [e1, e2] at hent hrun
    refine .inr ⟨p, _, hp, hrun, ⟨es, clock, since, seen.push e.born, clock, hb', a2, hset.1, a4, a6, a6, ?_⟩, ?_, ?_, hent⟩
    · have hf := filter_push ((stamped_iff es clock).1 a2.st).2.1 hem (by simpa using hes)
      have hl : (leftOf es seen).toList = es.toList.filter fun x => !seen.contains x.born := by unfold leftOf; rw [Array.toList_filter]
      have hl' : (leftOf es (seen.push e.born)).toList = es.toList.filter fun x => !(seen.push e.born).contains x.born := by unfold leftOf; rw [Array.toList_filter]
      rw [hl] at a7
      rw [hl']
      refine List.Perm.trans ?_ a7
      have hpE : encPI p = encEI e := hpe
      rw [List.map_append, List.map_cons, List.map_nil, hpE, List.append_assoc]
      refine List.Perm.append_left _ ?_
      exact ((hf.map encEI).symm)
    · rcases hal with rfl | rfl <;> exact ⟨rfl, rfl, rfl, by simp [setBlock], fun i _ hi => hset.2 i hi⟩
    · rcases hal with rfl | rfl <;> simp [setBlock]

variable {ops : Array Oper} {rest : List Oper} {o : Oper} {a : Act} {Q : Exit → Act → World → Prop}
theorem wpList_mapII_range (hg : o.guard = none) (m : Operand) (t : TypeId) (hop : o.op = Op.range t m) (k e : TypeId) (ht : P.underlying t = some (.map k e)) {mb : Nat} {l : List (Int × Value)}
    (hm : a.eval m = .map (some mb)) (h : MapII w mb l)
    (hK : ∀ w', RangingI w' mb w.heap.size l [] → Fr No w w' → w'.heap.size = w.heap.size + 1 → wpList P ops Q rest (a.put o.dst (.pointer (some ⟨w.heap.size, 0, none⟩))) w') :
    wpList P ops Q (o :: rest) a w := by
  refine wpList_plain hg fun K' hK' => ?_
  obtain ⟨w', hrun, r1, r2, r3⟩ := run_range_mapII (P := P) h t k e ht
  unfold Oper.wp
  simp [execOp, hop, hm, hrun, Result.andThen]
  exact hK' _ _ (hK w' r1 r2 r3)
theorem wpList_mapII_next (hg : o.guard = none) (it : Operand) (hop : o.op = Op.next it false) {mb r : Nat} {l done : List (Int × Value)} (hit : a.eval it = .pointer (some ⟨r, 0, none⟩)) (h : RangingI w mb r l done)
    (hDone : done.Perm l → wpList P ops Q rest (a.put o.dst (.tuple #[.bool false])) w)
    (hMore : ∀ p w', p ∈ l → RangingI w' mb r l (done ++ [p]) → Fr (fun i => i = r) w w' → w'.heap.size = w.heap.size → (Instr.entry (.pointer (some ⟨r, 0, none⟩))).run P w' = .ok (.tuple #[.int .i64 p.1, p.2]) w' → wpList P ops Q rest (a.put o.dst (.tuple #[.bool true, .int .i64 p.1, p.2])) w') :
    wpList P ops Q (o :: rest) a w := by
  refine wpList_plain hg fun K' hK' => ?_
  unfold Oper.wp
  rcases h.next (P := P) o.type with ⟨hp, hrun⟩ | ⟨p, w', hp, hrun, h1, h2, h3, h4⟩
  · simp [execOp, hop, hit, hrun, Result.andThen]
    exact hK' _ _ (hDone hp)
  · simp [execOp, hop, hit, hrun, Result.andThen]
    exact hK' _ _ (hMore p w' hp h1 h2 h3 h4)
end
end Go.Proofs.YtlmhphejgahfbaaGreatDoor
