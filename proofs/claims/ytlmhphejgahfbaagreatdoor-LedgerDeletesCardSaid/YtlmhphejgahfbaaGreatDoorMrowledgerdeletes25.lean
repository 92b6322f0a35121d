/- Texts of this claim, one behind the other: Range, RangeI, Below, Store4. -/
import Derived.Test.YtlmhphejgahfbaaGreatDoorMrowledgerdeletes3
import Derived.Maps.RangeWalk
import Derived.Test.YtlmhphejgahfbaaGreatDoorMrowledgerdeletes17
import Derived.Test.YtlmhphejgahfbaaGreatDoorMrowledgerdeletes24
import Derived.Test.YtlmhphejgahfbaaGreatDoorMrowledgerdeletes21
/- 'for _, v := range m' of a map keyed by texts: what has come, in whichever order. -/
set_option linter.unusedVariables false
set_option linter.unusedSimpArgs false
namespace Go.Proofs.YtlmhphejgahfbaaGreatDoor
open Go.RowKit Go.MapKept
open Go.ChangeMaps (setBlock)

def encP (p : ByteArray × Value) : Value × Value := (Value.string p.1, p.2)
def encE (e : MapEntry) : Value × Value := (e.key, e.val)
theorem encP_inj {p q : ByteArray × Value} (h : encP p = encP q) : p = q := by
  unfold encP at h
  injection h with h1 h2
  injection h1 with h1
  exact Prod.ext h1 h2
theorem perm_of_map {α β : Type} {f : α → β} (hf : ∀ x y, f x = f y → x = y) {l m : List α} (h : (l.map f).Perm (m.map f)) : l.Perm m := by
  induction l generalizing m with
  | nil => rw [List.map_nil] at h; have := h.length_eq; simp at this; rw [List.eq_nil_of_length_eq_zero this.symm]
  | cons a l ih =>
    have ha : f a ∈ m.map f := h.subset (by simp)
    obtain ⟨b, hb, e⟩ := List.mem_map.1 ha
    obtain rfl := hf _ _ e
    obtain ⟨s, t, rfl⟩ := List.append_of_mem hb
    rw [List.map_append, List.map_cons, List.map_cons] at h
    have h2 := (h.trans List.perm_middle).cons_inv
    rw [← List.map_append] at h2
    exact (ih h2).cons _ |>.trans List.perm_middle.symm

/-- Under way: done has come (each once); r is the iterator's block. -/
def Ranging (w : World) (mb r : Nat) (l done : List (ByteArray × Value)) : Prop :=
  ∃ es clock since seen c0, w.heap[mb]? = some (.map es clock) ∧ Es es clock l ∧ w.heap[r]? = some (.mapIter (some mb) since seen c0) ∧ (∀ x ∈ es.toList, x.born < since) ∧ since ≤ c0 ∧ since ≤ clock ∧
    (done.map encP ++ (leftOf es seen).toList.map encE).Perm (l.map encP)

theorem Ranging.stab {w w' : World} {mb r : Nat} {l done : List (ByteArray × Value)} (h : Ranging w mb r l done) (h1 : w'.heap[mb]? = w.heap[mb]?) (h2 : w'.heap[r]? = w.heap[r]?) : Ranging w' mb r l done := by
  obtain ⟨es, clock, since, seen, c0, a1, a2, a3, a4⟩ := h
  exact ⟨es, clock, since, seen, c0, h1.trans a1, a2, h2.trans a3, a4⟩
theorem Ranging.lt {w : World} {mb r : Nat} {l done : List (ByteArray × Value)} (h : Ranging w mb r l done) : mb < w.heap.size ∧ r < w.heap.size ∧ r ≠ mb := by
  obtain ⟨es, clock, since, seen, c0, a1, a2, a3, a4⟩ := h
  refine ⟨blk_lt a1, blk_lt a3, ?_⟩
  rintro rfl
  rw [a1] at a3
  cases a3
theorem Ranging.len {w : World} {mb r : Nat} {l done : List (ByteArray × Value)} (h : Ranging w mb r l done) : done.length ≤ l.length := by
  obtain ⟨es, clock, since, seen, c0, a1, a2, a3, a4, a5, a6, a7⟩ := h
  have := a7.length_eq
  simp at this; omega
theorem Ranging.fr {S : Nat → Prop} {w w' : World} {mb r : Nat} {l done : List (ByteArray × Value)} (h : Ranging w mb r l done) (f : Fr S w w') (h1 : ¬ S mb) (h2 : ¬ S r) : Ranging w' mb r l done :=
  h.stab (f.block _ h.lt.1 h1) (f.block _ h.lt.2.1 h2)
theorem Ranging.mem {w : World} {mb r : Nat} {l done : List (ByteArray × Value)} (h : Ranging w mb r l done) : ∀ p ∈ done, p ∈ l := by
  obtain ⟨es, clock, since, seen, c0, a1, a2, a3, a4, a5, a6, a7⟩ := h
  intro p hp
  have : encP p ∈ l.map encP := a7.subset (List.mem_append_left _ (List.mem_map_of_mem hp))
  obtain ⟨q, hq, e⟩ := List.mem_map.1 this
  rwa [← encP_inj e]

theorem Ranging.left {w : World} {mb r : Nat} {l done : List (ByteArray × Value)} (h : Ranging w mb r l done) : w.rangeLeft mb r + done.length = l.length := by
  obtain ⟨es, clock, since, seen, c0, a1, a2, a3, a4, a5, a6, a7⟩ := h
  have := a7.length_eq
  simp only [World.rangeLeft, a1, a3]
  simp at this; omega

section
variable {P : Program} {w : World}
theorem run_range_mapIs {mb : Nat} {l : List (ByteArray × Value)} (h : MapIs w mb l) (t k e : TypeId) (ht : P.underlying t = some (.map k e)) :
    ∃ w', (Instr.range t (.map (some mb))).run P w = .ok (.pointer (some ⟨w.heap.size, 0, none⟩)) w' ∧ Ranging w' mb w.heap.size l [] ∧ Fr No w w' ∧ w'.heap.size = w.heap.size + 1 := by
  obtain ⟨es, clock, hb, he⟩ := h
  refine ⟨_, run_range_map w t k e mb es clock ht hb, ⟨es, clock, clock, #[], clock, (Below.heap_alloc _ _ mb (blk_lt hb)).trans hb, he, heap_alloc_new w _, he.st.1, Nat.le_refl _, Nat.le_refl _, ?_⟩, (Fr.refl No w).alloc _, by simp⟩
  have : (leftOf es #[]).toList = es.toList := by simp [leftOf]
  rw [this, List.map_nil, List.nil_append]
  have e := he.ents
  rw [show es.toList.map encE = l.map encP from e]

theorem filter_push {es : List MapEntry} {seen : Array Nat} {e : MapEntry} (hn : (es.map (·.born)).Nodup) (he : e ∈ es) (hs : seen.contains e.born = false) :
    (es.filter fun x => !seen.contains x.born).Perm (e :: es.filter fun x => !(seen.push e.born).contains x.born) := by
  induction es with
  | nil => cases he
  | cons x es ih =>
    rw [List.map_cons, List.nodup_cons] at hn
    rcases List.mem_cons.1 he with rfl | he
    · have e1 : (es.filter fun x => !(seen.push e.born).contains x.born) = es.filter fun x => !seen.contains x.born := by
        refine List.filter_congr fun y hy => ?_
        have : ¬ y.born = e.born := fun h => hn.1 (h ▸ List.mem_map_of_mem hy)
        have h2 : ¬ e.born = y.born := fun h => this h.symm
        simp [Array.mem_push, h2, this]
      rw [List.filter_cons, List.filter_cons, e1]
      have hs2 : ¬ e.born ∈ seen := by simpa using hs
      simp [hs2]
    · have := ih hn.2 he
      have hne : ¬ x.born = e.born := fun h => hn.1 (h ▸ List.mem_map_of_mem he)
      have hne2 : ¬ e.born = x.born := fun h => hne h.symm
      rw [List.filter_cons, List.filter_cons]
      have e2 : (seen.push e.born).contains x.born = seen.contains x.born := by
        rw [Bool.eq_iff_iff]; simp [Array.mem_push, hne, hne2]
      rw [e2]
      cases seen.contains x.born
      · simp only [Bool.not_false, if_true]
        exact (this.cons x).trans (List.Perm.swap _ _ _)
      · simpa using this

/-- One step: it is over, or one more has come. -/
theorem Ranging.next {mb r : Nat} {l done : List (ByteArray × Value)} (h : Ranging w mb r l done) (ty : TypeId) :
    (done.Perm l ∧ (Instr.next (.pointer (some ⟨r, 0, none⟩)) false ty).run P w = .ok (.tuple #[.bool false]) w) ∨
    ∃ p w', p ∈ l ∧ (Instr.next (.pointer (some ⟨r, 0, none⟩)) false ty).run P w = .ok (.tuple #[.bool true, .string p.1, p.2]) w' ∧ Ranging w' mb r l (done ++ [p]) ∧ Fr (fun i => i = r) w w' ∧ w'.heap.size = w.heap.size ∧
      (Instr.entry (.pointer (some ⟨r, 0, none⟩))).run P w' = .ok (.tuple #[.string p.1, p.2]) w' := by
  have hne := h.lt.2.2
  obtain ⟨es, clock, since, seen, c0, a1, a2, a3, a4, a5, a6, a7⟩ := h
  rcases run_next_at (P := P) w ty r mb since c0 seen es clock a3 a1 a4 a5 with ⟨h0, hrun⟩ | ⟨e, he, w1, hal, hrun⟩
  · refine .inl ⟨?_, hrun⟩
    have : (leftOf es seen).toList = [] := List.eq_nil_of_length_eq_zero (by simpa using h0)
    rw [this, List.map_nil, List.append_nil] at a7
    exact perm_of_map (fun _ _ => encP_inj) a7
  · obtain ⟨hem, hes⟩ := mem_left he
    have hk : (e.key, e.val) ∈ l.map encP := by
      have := a2.ents
      rw [show l.map encP = es.toList.map encE from this.symm]
      exact List.mem_map_of_mem (f := encE) hem
    obtain ⟨p, hp, hpe⟩ := List.mem_map.1 hk
    have e1 : e.key = .string p.1 := by have := congrArg Prod.fst hpe; exact this.symm
    have e2 : e.val = p.2 := by have := congrArg Prod.snd hpe; exact this.symm
    have hr1 : w1.heap[r]? = some (.mapIter (some mb) since seen c0) := by rcases hal with rfl | rfl <;> exact a3
    have hb1 : w1.heap[mb]? = some (.map es clock) := by rcases hal with rfl | rfl <;> exact a1
    have hset := heap_set (o' := .mapIter (some mb) since (seen.push e.born) clock) hr1
    have hb' : (setBlock w1 r (.mapIter (some mb) since (seen.push e.born) clock)).heap[mb]? = some (.map es clock) := (hset.2 mb (fun e1 => hne e1.symm)).trans hb1
    have hent := run_entry_at (P := P) _ r mb since seen es clock e hset.1 hb' hem ((stamped_iff es clock).1 a2.st).2.1
    rw [e1, e2] at hent hrun
    refine .inr ⟨p, _, hp, hrun, ⟨es, clock, since, seen.push e.born, clock, hb', a2, hset.1, a4, a6, a6, ?_⟩, ?_, ?_, hent⟩
    · have hf := filter_push ((stamped_iff es clock).1 a2.st).2.1 hem (by simpa using hes)
      have hl : (leftOf es seen).toList = es.toList.filter fun x => !seen.contains x.born := by unfold leftOf; rw [Array.toList_filter]
      have hl' : (leftOf es (seen.push e.born)).toList = es.toList.filter fun x => !(seen.push e.born).contains x.born := by unfold leftOf; rw [Array.toList_filter]
      rw [hl] at a7
      rw [hl']
      refine List.Perm.trans ?_ a7
      have hpE : encP p = encE e := hpe
      rw [List.map_append, List.map_cons, List.map_nil, hpE, List.append_assoc]
      refine List.Perm.append_left _ ?_
      exact ((hf.map encE).symm)
    · rcases hal with rfl | rfl <;> exact ⟨rfl, rfl, rfl, by simp [setBlock], fun i _ hi => hset.2 i hi⟩
    · rcases hal with rfl | rfl <;> simp [setBlock]

variable {ops : Array Oper} {rest : List Oper} {o : Oper} {a : Act} {Q : Exit → Act → World → Prop}
theorem wpList_mapIs_range (hg : o.guard = none) (m : Operand) (t : TypeId) (hop : o.op = Op.range t m) (k e : TypeId) (ht : P.underlying t = some (.map k e)) {mb : Nat} {l : List (ByteArray × Value)}
    (hm : a.eval m = .map (some mb)) (h : MapIs w mb l)
    (hK : ∀ w', Ranging w' mb w.heap.size l [] → Fr No w w' → w'.heap.size = w.heap.size + 1 → wpList P ops Q rest (a.put o.dst (.pointer (some ⟨w.heap.size, 0, none⟩))) w') :
    wpList P ops Q (o :: rest) a w := by
  refine wpList_plain hg fun K' hK' => ?_
  obtain ⟨w', hrun, r1, r2, r3⟩ := run_range_mapIs (P := P) h t k e ht
  unfold Oper.wp
  simp [execOp, hop, hm, hrun, Result.andThen]
  exact hK' _ _ (hK w' r1 r2 r3)
theorem wpList_mapIs_next (hg : o.guard = none) (it : Operand) (hop : o.op = Op.next it false) {mb r : Nat} {l done : List (ByteArray × Value)} (hit : a.eval it = .pointer (some ⟨r, 0, none⟩)) (h : Ranging w mb r l done)
    (hDone : done.Perm l → wpList P ops Q rest (a.put o.dst (.tuple #[.bool false])) w)
    (hMore : ∀ p w', p ∈ l → Ranging w' mb r l (done ++ [p]) → Fr (fun i => i = r) w w' → w'.heap.size = w.heap.size → (Instr.entry (.pointer (some ⟨r, 0, none⟩))).run P w' = .ok (.tuple #[.string p.1, p.2]) w' → wpList P ops Q rest (a.put o.dst (.tuple #[.bool true, .string p.1, p.2])) w') :
    wpList P ops Q (o :: rest) a w := by
  refine wpList_plain hg fun K' hK' => ?_
  unfold Oper.wp
  rcases h.next (P := P) o.type with ⟨hp, hrun⟩ | ⟨p, w', hp, hrun, h1, h2, h3, h4⟩
  · simp [execOp, hop, hit, hrun, Result.andThen]
    exact hK' _ _ (hDone hp)
  · simp [execOp, hop, hit, hrun, Result.andThen]
    exact hK' _ _ (hMore p w' hp h1 h2 h3 h4)
end
end Go.Proofs.YtlmhphejgahfbaaGreatDoor
/- 'for _, v := range m' of a map keyed by ints (printed by genrangei.py): what has come, in whichever order. -/
set_option linter.unusedVariables false
set_option linter.unusedSimpArgs false
namespace Go.Proofs.YtlmhphejgahfbaaGreatDoor
open Go.RowKit Go.MapKept
open Go.ChangeMaps (setBlock)

def encPI (p : Int × Value) : Value × Value := (Value.int .i64 p.1, p.2)
def encEI (e : MapEntry) : Value × Value := (e.key, e.val)
theorem encP_injI {p q : Int × Value} (h : encPI p = encPI q) : p = q := by
  unfold encPI at h
  injection h with h1 h2
  injection h1 with _ h1
  exact Prod.ext h1 h2

/-- Under way: done has come (each once); r is the iterator's block. -/
def RangingI (w : World) (mb r : Nat) (l done : List (Int × Value)) : Prop :=
  ∃ es clock since seen c0, w.heap[mb]? = some (.map es clock) ∧ EsI es clock l ∧ w.heap[r]? = some (.mapIter (some mb) since seen c0) ∧ (∀ x ∈ es.toList, x.born < since) ∧ since ≤ c0 ∧ since ≤ clock ∧
    (done.map encPI ++ (leftOf es seen).toList.map encEI).Perm (l.map encPI)

theorem RangingI.stab {w w' : World} {mb r : Nat} {l done : List (Int × Value)} (h : RangingI w mb r l done) (h1 : w'.heap[mb]? = w.heap[mb]?) (h2 : w'.heap[r]? = w.heap[r]?) : RangingI w' mb r l done := by
  obtain ⟨es, clock, since, seen, c0, a1, a2, a3, a4⟩ := h
  exact ⟨es, clock, since, seen, c0, h1.trans a1, a2, h2.trans a3, a4⟩
theorem RangingI.lt {w : World} {mb r : Nat} {l done : List (Int × Value)} (h : RangingI w mb r l done) : mb < w.heap.size ∧ r < w.heap.size ∧ r ≠ mb := by
  obtain ⟨es, clock, since, seen, c0, a1, a2, a3, a4⟩ := h
  refine ⟨blk_lt a1, blk_lt a3, ?_⟩
  rintro rfl
  rw [a1] at a3
  cases a3
theorem RangingI.len {w : World} {mb r : Nat} {l done : List (Int × Value)} (h : RangingI w mb r l done) : done.length ≤ l.length := by
  obtain ⟨es, clock, since, seen, c0, a1, a2, a3, a4, a5, a6, a7⟩ := h
  have := a7.length_eq
  simp at this; omega
theorem RangingI.fr {S : Nat → Prop} {w w' : World} {mb r : Nat} {l done : List (Int × Value)} (h : RangingI w mb r l done) (f : Fr S w w') (h1 : ¬ S mb) (h2 : ¬ S r) : RangingI w' mb r l done :=
  h.stab (f.block _ h.lt.1 h1) (f.block _ h.lt.2.1 h2)
theorem RangingI.mem {w : World} {mb r : Nat} {l done : List (Int × Value)} (h : RangingI w mb r l done) : ∀ p ∈ done, p ∈ l := by
  obtain ⟨es, clock, since, seen, c0, a1, a2, a3, a4, a5, a6, a7⟩ := h
  intro p hp
  have : encPI p ∈ l.map encPI := a7.subset (List.mem_append_left _ (List.mem_map_of_mem hp))
  obtain ⟨q, hq, e⟩ := List.mem_map.1 this
  rwa [← encP_injI e]

theorem RangingI.left {w : World} {mb r : Nat} {l done : List (Int × Value)} (h : RangingI w mb r l done) : w.rangeLeft mb r + done.length = l.length := by
  obtain ⟨es, clock, since, seen, c0, a1, a2, a3, a4, a5, a6, a7⟩ := h
  have := a7.length_eq
  simp only [World.rangeLeft, a1, a3]
  simp at this; omega

section
variable {P : Program} {w : World}
theorem run_range_mapII {mb : Nat} {l : List (Int × Value)} (h : MapII w mb l) (t k e : TypeId) (ht : P.underlying t = some (.map k e)) :
    ∃ w', (Instr.range t (.map (some mb))).run P w = .ok (.pointer (some ⟨w.heap.size, 0, none⟩)) w' ∧ RangingI w' mb w.heap.size l [] ∧ Fr No w w' ∧ w'.heap.size = w.heap.size + 1 := by
  obtain ⟨es, clock, hb, he⟩ := h
  refine ⟨_, run_range_map w t k e mb es clock ht hb, ⟨es, clock, clock, #[], clock, (Below.heap_alloc _ _ mb (blk_lt hb)).trans hb, he, heap_alloc_new w _, he.st.1, Nat.le_refl _, Nat.le_refl _, ?_⟩, (Fr.refl No w).alloc _, by simp⟩
  have : (leftOf es #[]).toList = es.toList := by simp [leftOf]
  rw [this, List.map_nil, List.nil_append]
  have e := he.ents
  rw [show es.toList.map encEI = l.map encPI from e]


/-- One step: it is over, or one more has come. -/
theorem RangingI.next {mb r : Nat} {l done : List (Int × Value)} (h : RangingI w mb r l done) (ty : TypeId) :
    (done.Perm l ∧ (Instr.next (.pointer (some ⟨r, 0, none⟩)) false ty).run P w = .ok (.tuple #[.bool false]) w) ∨
    ∃ p w', p ∈ l ∧ (Instr.next (.pointer (some ⟨r, 0, none⟩)) false ty).run P w = .ok (.tuple #[.bool true, .int .i64 p.1, p.2]) w' ∧ RangingI w' mb r l (done ++ [p]) ∧ Fr (fun i => i = r) w w' ∧ w'.heap.size = w.heap.size ∧
      (Instr.entry (.pointer (some ⟨r, 0, none⟩))).run P w' = .ok (.tuple #[.int .i64 p.1, p.2]) w' := by
  have hne := h.lt.2.2
  obtain ⟨es, clock, since, seen, c0, a1, a2, a3, a4, a5, a6, a7⟩ := h
  rcases run_next_at (P := P) w ty r mb since c0 seen es clock a3 a1 a4 a5 with ⟨h0, hrun⟩ | ⟨e, he, w1, hal, hrun⟩
  · refine .inl ⟨?_, hrun⟩
    have : (leftOf es seen).toList = [] := List.eq_nil_of_length_eq_zero (by simpa using h0)
    rw [this, List.map_nil, List.append_nil] at a7
    exact perm_of_map (fun _ _ => encP_injI) a7
  · obtain ⟨hem, hes⟩ := mem_left he
    have hk : (e.key, e.val) ∈ l.map encPI := by
      have := a2.ents
      rw [show l.map encPI = es.toList.map encEI from this.symm]
      exact List.mem_map_of_mem (f := encEI) hem
    obtain ⟨p, hp, hpe⟩ := List.mem_map.1 hk
    have e1 : e.key = .int .i64 p.1 := by have := congrArg Prod.fst hpe; exact this.symm
    have e2 : e.val = p.2 := by have := congrArg Prod.snd hpe; exact this.symm
    have hr1 : w1.heap[r]? = some (.mapIter (some mb) since seen c0) := by rcases hal with rfl | rfl <;> exact a3
    have hb1 : w1.heap[mb]? = some (.map es clock) := by rcases hal with rfl | rfl <;> exact a1
    have hset := heap_set (o' := .mapIter (some mb) since (seen.push e.born) clock) hr1
    have hb' : (setBlock w1 r (.mapIter (some mb) since (seen.push e.born) clock)).heap[mb]? = some (.map es clock) := (hset.2 mb (fun e1 => hne e1.symm)).trans hb1
    have hent := run_entry_at (P := P) _ r mb since seen es clock e hset.1 hb' hem ((stamped_iff es clock).1 a2.st).2.1
    rw [e1, e2] at hent hrun
    refine .inr ⟨p, _, hp, hrun, ⟨es, clock, since, seen.push e.born, clock, hb', a2, hset.1, a4, a6, a6, ?_⟩, ?_, ?_, hent⟩
    · have hf := filter_push ((stamped_iff es clock).1 a2.st).2.1 hem (by simpa using hes)
      have hl : (leftOf es seen).toList = es.toList.filter fun x => !seen.contains x.born := by unfold leftOf; rw [Array.toList_filter]
      have hl' : (leftOf es (seen.push e.born)).toList = es.toList.filter fun x => !(seen.push e.born).contains x.born := by unfold leftOf; rw [Array.toList_filter]
      rw [hl] at a7
      rw [hl']
      refine List.Perm.trans ?_ a7
      have hpE : encPI p = encEI e := hpe
      rw [List.map_append, List.map_cons, List.map_nil, hpE, List.append_assoc]
      refine List.Perm.append_left _ ?_
      exact ((hf.map encEI).symm)
    · rcases hal with rfl | rfl <;> exact ⟨rfl, rfl, rfl, by simp [setBlock], fun i _ hi => hset.2 i hi⟩
    · rcases hal with rfl | rfl <;> simp [setBlock]

variable {ops : Array Oper} {rest : List Oper} {o : Oper} {a : Act} {Q : Exit → Act → World → Prop}
theorem wpList_mapII_range (hg : o.guard = none) (m : Operand) (t : TypeId) (hop : o.op = Op.range t m) (k e : TypeId) (ht : P.underlying t = some (.map k e)) {mb : Nat} {l : List (Int × Value)}
    (hm : a.eval m = .map (some mb)) (h : MapII w mb l)
    (hK : ∀ w', RangingI w' mb w.heap.size l [] → Fr No w w' → w'.heap.size = w.heap.size + 1 → wpList P ops Q rest (a.put o.dst (.pointer (some ⟨w.heap.size, 0, none⟩))) w') :
    wpList P ops Q (o :: rest) a w := by
  refine wpList_plain hg fun K' hK' => ?_
  obtain ⟨w', hrun, r1, r2, r3⟩ := run_range_mapII (P := P) h t k e ht
  unfold Oper.wp
  simp [execOp, hop, hm, hrun, Result.andThen]
  exact hK' _ _ (hK w' r1 r2 r3)
theorem wpList_mapII_next (hg : o.guard = none) (it : Operand) (hop : o.op = Op.next it false) {mb r : Nat} {l done : List (Int × Value)} (hit : a.eval it = .pointer (some ⟨r, 0, none⟩)) (h : RangingI w mb r l done)
    (hDone : done.Perm l → wpList P ops Q rest (a.put o.dst (.tuple #[.bool false])) w)
    (hMore : ∀ p w', p ∈ l → RangingI w' mb r l (done ++ [p]) → Fr (fun i => i = r) w w' → w'.heap.size = w.heap.size → (Instr.entry (.pointer (some ⟨r, 0, none⟩))).run P w' = .ok (.tuple #[.int .i64 p.1, p.2]) w' → wpList P ops Q rest (a.put o.dst (.tuple #[.bool true, .int .i64 p.1, p.2])) w') :
    wpList P ops Q (o :: rest) a w := by
  refine wpList_plain hg fun K' hK' => ?_
  unfold Oper.wp
  rcases h.next (P := P) o.type with ⟨hp, hrun⟩ | ⟨p, w', hp, hrun, h1, h2, h3, h4⟩
  · simp [execOp, hop, hit, hrun, Result.andThen]
    exact hK' _ _ (hDone hp)
  · simp [execOp, hop, hit, hrun, Result.andThen]
    exact hK' _ _ (hMore p w' hp h1 h2 h3 h4)
end
end Go.Proofs.YtlmhphejgahfbaaGreatDoor
/- Layer 15 (ledger): below. -/
set_option linter.unusedVariables false
set_option linter.unusedSimpArgs false
namespace Go.Proofs.YtlmhphejgahfbaaGreatDoor
open Go.RowKit

theorem foldl_least {α : Type} (f : α → Int) (l : List α) : ∀ (a m : Int), m ≤ a → (∀ x ∈ l, m ≤ f x) → (m = a ∨ ∃ x ∈ l, m = f x) → l.foldl (fun a x => min a (f x)) a = m := by
  induction l with
  | nil =>
    intro a m h1 h2 h3
    rcases h3 with h3 | ⟨x, hx, _⟩
    · exact h3.symm
    · cases hx
  | cons y l ih =>
    intro a m h1 h2 h3
    rw [List.foldl_cons]
    have hy := h2 y (List.mem_cons_self ..)
    refine ih _ _ (by omega) (fun x hx => h2 x (List.mem_cons_of_mem _ hx)) ?_
    rcases h3 with h3 | ⟨x, hx, h3⟩
    · left; omega
    · rcases List.mem_cons.1 hx with rfl | hx
      · left; omega
      · exact .inr ⟨x, hx, h3⟩
/-- The least so far. -/
structure LeastOf (L : Led) (m : Int) (done : List (Int × Value)) : Prop where
  now : m ≤ L.s.now
  all : ∀ p ∈ done, ∀ x, L.find p.1 = some x → m ≤ x.base
  one : m = L.s.now ∨ ∃ x ∈ L.txs, m = x.base
set_option maxHeartbeats 1000000 in
set_option maxRecDepth 100000 in
theorem led_below {w : World} {col : Nat → Nat} {lb : Nat} {L : Led} {A : Option Addr} {c sb mb : Nat} {vst : Value} {l : List (Int × Value)} (hP : LedP w col lb L A c sb mb vst l) (hfind : ∀ x ∈ L.txs, L.find x.id = some x) :
    Calls Tryz.prog 81 #[.pointer (some ⟨lb, 0, none⟩)] w fun e w' => e = .returned (.int .i64 L.below) ∧ Fr No w w' := by
  have hnow := store_now hP.sto
  have c1 := blk_cell hP.blk 1
  have c2 := blk_cell hP.blk 2
  simp at c1 c2
  have hent : ∀ p ∈ l, ∃ x xb, L.find p.1 = some x ∧ p.2 = .pointer (some ⟨xb, 0, none⟩) ∧ x ∈ L.txs ∧ TxAt w (fun i => i < w.heap.size) xb x.base x.ws := fun p hp => by
    have hl := look_of_memI hP.map.nodup (show (p.1, p.2) ∈ l from hp)
    cases hx : L.find p.1 with
    | none => rw [hP.txs.none_ _ hx] at hl; cases hl
    | some x =>
      obtain ⟨xb, h1, h2⟩ := hP.txs.some_ _ x hx
      rw [hl] at h1
      exact ⟨x, xb, rfl, Option.some.inj h1, (find_id hx).2, h2.mono fun i hi hl => hl⟩
  have hall : ∀ x ∈ L.txs, ∃ v, (x.id, v) ∈ l := fun x hx => by
    obtain ⟨xb, h1, _⟩ := hP.txs.some_ _ x (hfind x hx)
    exact ⟨_, look_memI h1⟩
  have H := Lib.hid (And.intro hP (And.intro hfind (And.intro hnow (And.intro hent hall))))
  clear hP hfind hnow hent hall
  go_enter Tryz.func81, Tryz.ntmps81
  go_wp2_with fail
  refine H.out.2.2.1.mono ?_
  rintro e w ⟨rfl, rfl⟩
  go_wp2_with (at_range; refine wpList_mapII_range rfl _ 84 rfl _ _ Tryz.underlying84 rfl H.out.1.map ?_; intro w3 hrg hf3 hs3; have HR := Lib.hid (And.intro hrg hf3); clear hrg hf3 hs3)
  go_frame
  go_loopw [3] (fun v wr => ∃ (m : Int) (done : List (Int × Value)), v = .int .i64 m ∧ Hid (RangingI wr mb w.heap.size l done ∧ Fr No w wr ∧ LeastOf L m done)) (fun _ wr => wr.rangeLeft mb w.heap.size)
  case atStart => exact ⟨_, [], rfl, HR.out.1, HR.out.2, ⟨Int.le_refl _, fun p hp => (by cases hp), .inl rfl⟩⟩
  case round =>
    obtain ⟨m, done, rfl, I⟩ := hrel
    go_wp2_with (first
      | (at_next; refine wpList_mapII_next rfl _ rfl rfl I.out.1 (fun hperm => ?_) (fun p w5 hp hrg hf5 hs5 hent => ?_); (have HP := Lib.hid hperm; clear hperm); rotate_left; (obtain ⟨x, xb, hx, hv, hxm, hT⟩ := H.out.2.2.2.1 p hp; obtain ⟨id, v5⟩ := p; dsimp only at hx hv hent; subst hv; have hbase := tx_base ((hT.fr0 I.out.2.1).fr hf5 (fun i hi e => by have h1 : i < w.heap.size := hi; omega)); have HN := Lib.hid (And.intro hp (And.intro hrg (And.intro hf5 (And.intro hs5 (And.intro hx (And.intro hxm hbase)))))); clear hp hrg hf5 hs5 hx hxm hT hbase))
      | (go_at_call 152; refine HN.out.2.2.2.2.2.2.mono ?_; rintro e w5 ⟨rfl, rfl⟩))
    · go_roundw
      case rel =>
        refine ⟨_, done ++ [(id, .pointer (some ⟨xb, 0, none⟩))], rfl, HN.out.2.1, I.out.2.1.next HN.out.2.2.1 (fun i hi e => by omega), ?_⟩
        have hL := I.out.2.2
        refine ⟨by have := hL.now; omega, fun p hp y hy => ?_, ?_⟩
        · rcases List.mem_append.1 hp with hp | hp
          · have := hL.all p hp y hy; omega
          · obtain rfl : p = _ := List.mem_singleton.1 hp
            have h1 := HN.out.2.2.2.2.1
            rw [h1] at hy
            obtain rfl : x = y := Option.some.inj hy
            omega
        · rcases Int.le_total m x.base with h | h
          · rcases hL.one with h3 | ⟨y, hy, h3⟩
            · left; omega
            · exact .inr ⟨y, hy, by omega⟩
          · exact .inr ⟨x, HN.out.2.2.2.2.2.1, by omega⟩
      case measure =>
        have a1 := I.out.1.left
        have a2 := HN.out.2.1.left
        simp only [List.length_append, List.length_singleton] at a2
        omega
    · go_ret
      have hL := I.out.2.2
      have hm : L.below = m := foldl_least _ _ _ _ hL.now (fun x hx => by
        obtain ⟨v, hv⟩ := H.out.2.2.2.2 x hx
        exact hL.all _ (HP.out.symm.subset hv) x (H.out.2.1 x hx)) hL.one
      exact ⟨by rw [hm]; rfl, I.out.2.1⟩
end Go.Proofs.YtlmhphejgahfbaaGreatDoor
/- Layer 13 (store): Len and Trim. -/
set_option linter.unusedVariables false
set_option linter.unusedSimpArgs false
namespace Go.Proofs.YtlmhphejgahfbaaGreatDoor
open Go.RowKit

theorem sum_le (l : List Nat) (c : Nat) (h : ∀ x ∈ l, x ≤ c) : l.sum ≤ l.length * c := by
  induction l with
  | nil => simp
  | cons x l ih =>
    have h1 := h x (List.mem_cons_self ..)
    have h2 := ih fun y hy => h y (List.mem_cons_of_mem _ hy)
    rw [List.sum_cons, List.length_cons, Nat.add_mul]
    omega
theorem sum_take {l : List Nat} {k : Nat} (hk : k < l.length) : (l.take (k + 1)).sum = (l.take k).sum + l[k] := by
  rw [List.take_succ_eq_append_getElem hk, List.sum_append]; simp
theorem sum_take_le (l : List Nat) (k : Nat) : (l.take k).sum ≤ l.sum := by
  conv => rhs; rw [← List.take_append_drop k l, List.sum_append]
  omega

set_option maxHeartbeats 1000000 in
theorem store_len {w : World} {F : Nat → Prop} {sb : Nat} {s : Sto} {m : Nat} (h : StoreAt w F sb s) (hs : s.Small m) (hm : m ≤ 100000000) :
    Calls Tryz.prog 82 #[.pointer (some ⟨sb, 0, none⟩)] w fun e w' => e = .returned (.int .i64 s.len) ∧ Fr No w w' := by
  have hk := store_keys h hs hm
  have hkl : (s.kc.length : Int) ≤ 100000000 := by have := hs.keys; omega
  have hsum : s.len ≤ 10000000000000000 := by
    have := sum_le (s.kc.map fun p => p.2.l.length) 100000000 (fun x hx => by
      obtain ⟨p, hp, rfl⟩ := List.mem_map.1 hx
      have := (hs.chains p hp).1; omega)
    rw [List.length_map] at this
    unfold Sto.len; omega
  have HH := Lib.hid (And.intro hk (And.intro h (And.intro hs hm)))
  clear hk h hs hm
  go_enter Tryz.func82, Tryz.ntmps82
  go_wp2_with (go_at_call 150; refine HH.out.1.mono ?_; rintro e w1 ⟨A, c, rfl, hr, hc, hf1⟩; have HR := Lib.hid (And.intro hr hf1); clear hr hf1)
  go_loop [3, 9] (fun v i => ∃ (k n : Nat), k ≤ s.kc.length ∧ v = .int .i64 n ∧ i = .int .i64 k ∧ Hid (n = ((s.kc.map fun p => p.2.l.length).take k).sum)) (fun _ i => s.kc.length - (intOf i).toNat)
  case atStart => exact ⟨0, 0, Nat.zero_le _, rfl, rfl, by show _ = _; simp⟩
  case round =>
    obtain ⟨k, n, hk, rfl, rfl, I⟩ := hrel
    by_cases hlt : k < s.kc.length
    · obtain ⟨ad, rfl, x0⟩ := str_at HR.out.1 (i := k) (by simpa using hlt)
      obtain ⟨h1, mb, l, G, h2, h3, h4, h5, h6, h7⟩ := HH.out.2.1.fr0 HR.out.2
      have c0 := blk_cell h4 0
      have hm := List.getElem_mem hlt
      have hlk := look_of_mem h6.rising.nodup (show (s.kc[k].1, s.kc[k].2) ∈ s.kc from hm)
      obtain ⟨v, hv⟩ : ∃ v, look s.kc[k].1 l = some v := by
        cases hl : look s.kc[k].1 l with
        | none => rw [(h6.keys _).1 hl] at hlk; cases hlk
        | some v => exact ⟨v, rfl⟩
      obtain ⟨b, rfl, hb⟩ := h6.at_ _ _ _ hv hlk
      have hrun := (run_map_look (P := Tryz.prog) h5 157 _ _ Tryz.underlying157 Tryz.underlying9 _ (zero_chain w1) s.kc[k].1).1
      rw [hv, Option.getD_some] at hrun
      have hlen := chain_len hb
      have hst := sum_take (l := s.kc.map fun p => p.2.l.length) (k := k) (by simpa using hlt)
      rw [List.getElem_map] at hst x0
      have hle := sum_take_le (s.kc.map fun p => p.2.l.length) (k + 1)
      rw [hst] at hle
      have hnb : (n : Int) + (s.kc[k].2.l.length : Int) ≤ 10000000000000000 := by
        have e := I.out
        have : n + s.kc[k].2.l.length ≤ s.len := by rw [e]; exact hle
        omega
      have HL := Lib.hid (And.intro hlen hst)
      clear h1 h2 h3 h4 h5 h6 h7 hm hlk hv hb hlen hst hle
      simp at c0
      generalize hky : s.kc[k].1 = ky at *
      generalize hln : s.kc[k].2.l.length = ln at *
      clear hky hln
      have hk0 : (0 : Int) ≤ (k : Int) := Int.natCast_nonneg _
      have hk1 : (k : Int) < (s.kc.length : Int) := by omega
      have hn0 : (0 : Int) ≤ (n : Int) := Int.natCast_nonneg _
      have hl0 : (0 : Int) ≤ (ln : Int) := Int.natCast_nonneg _
      go_wp2_with (go_at_call 153; refine HL.out.1.mono ?_; rintro e w' ⟨rfl, rfl⟩)
      go_round
      case rel => exact ⟨k + 1, n + ln, by omega, by go_num, by go_num, by show _ = _; rw [HL.out.2, ← I.out]⟩
      case measure => simp [intOf]; omega
    · obtain rfl : k = s.kc.length := by omega
      have e : n = s.len := by
        have e := I.out
        have h2 : (s.kc.map fun p => p.2.l.length).take s.kc.length = s.kc.map fun p => p.2.l.length := List.take_of_length_le (by simp)
        rw [h2] at e
        exact e
      have E := Lib.hid e
      clear e
      go_wp2
      go_ret
      exact ⟨by rw [← E.out]; rfl, HR.out.2⟩
theorem store_len_nil (w : World) : Calls Tryz.prog 82 #[.pointer none] w fun e w' => e = .returned (.int .i64 0) ∧ w' = w := by
  go_enter Tryz.func82, Tryz.ntmps82
  go_wp2_with (go_at_call 150; refine (store_keys_nil _).mono ?_; rintro e w1 ⟨rfl, rfl⟩)
  refine wp_loop_rounds 1 ?_; rw [rounds_succ]
  go_wp2
  go_ret
  exact ⟨rfl, rfl⟩
end Go.Proofs.YtlmhphejgahfbaaGreatDoor
