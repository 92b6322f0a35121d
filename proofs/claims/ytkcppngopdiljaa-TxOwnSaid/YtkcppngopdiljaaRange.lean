/- 'for _, v := range m' of a map keyed by texts: what has come, in whichever order. -/
import Derived.Test.YtkcppngopdiljaaMap
import Derived.Maps.RangeWalk
set_option linter.unusedVariables false
set_option linter.unusedSimpArgs false
namespace Go.Proofs.Ytkcppngopdiljaa
open Go.RowKit Go.MapKept
open Go.ChangeMaps (setBlock)

def encP (p : ByteArray × Value) : Value × Value := (Value.string p.1, p.2)
def encE (e : MapEntry) : Value × Value := (e.key, e.val)
theorem encP_inj {p q : ByteArray × Value} (h : encP p = encP q) : p = q := by
  unfold encP at h
  injection h with h1 h2
  injection h1 with h1
  exact Prod.ext h1 h2
theorem perm_of_map {α β : Type} {f : α → β} (hf : ∀ x y, f x = f y → x = y) {l m : List α} (h : (l.map f).Perm (m.map f)) : l.Perm m := by
  induction l generalizing m with
  | nil => rw [List.map_nil] at h; have := h.length_eq; simp at this; rw [List.eq_nil_of_length_eq_zero this.symm]
  | cons a l ih =>
    have ha : f a ∈ m.map f := h.subset (by simp)
    obtain ⟨b, hb, e⟩ := List.mem_map.1 ha
    obtain rfl := hf _ _ e
    obtain ⟨s, t, rfl⟩ := List.append_of_mem hb
    rw [List.map_append, List.map_cons, List.map_cons] at h
    have h2 := (h.trans List.perm_middle).cons_inv
    rw [← List.map_append] at h2
    exact (ih h2).cons _ |>.trans List.perm_middle.symm

/-- Under way: done has come (each once); r is the iterator's block. -/
def Ranging (w : World) (mb r : Nat) (l done : List (ByteArray × Value)) : Prop :=
  ∃ es clock since seen c0, w.heap[mb]? = some (.map es clock) ∧ Es es clock l ∧ w.heap[r]? = some (.mapIter (some mb) since seen c0) ∧ (∀ x ∈ es.toList, x.born < since) ∧ since ≤ c0 ∧ since ≤ clock ∧
    (done.map encP ++ (leftOf es seen).toList.map encE).Perm (l.map encP)

theorem Ranging.stab {w w' : World} {mb r : Nat} {l done : List (ByteArray × Value)} (h : Ranging w mb r l done) (h1 : w'.heap[mb]? = w.heap[mb]?) (h2 : w'.heap[r]? = w.heap[r]?) : Ranging w' mb r l done := by
  obtain ⟨es, clock, since, seen, c0, a1, a2, a3, a4⟩ := h
  exact ⟨es, clock, since, seen, c0, h1.trans a1, a2, h2.trans a3, a4⟩
theorem Ranging.lt {w : World} {mb r : Nat} {l done : List (ByteArray × Value)} (h : Ranging w mb r l done) : mb < w.heap.size ∧ r < w.heap.size ∧ r ≠ mb := by
  obtain ⟨es, clock, since, seen, c0, a1, a2, a3, a4⟩ := h
  refine ⟨blk_lt a1, blk_lt a3, ?_⟩
  rintro rfl
  rw [a1] at a3
  cases a3
theorem Ranging.len {w : World} {mb r : Nat} {l done : List (ByteArray × Value)} (h : Ranging w mb r l done) : done.length ≤ l.length := by
  obtain ⟨es, clock, since, seen, c0, a1, a2, a3, a4, a5, a6, a7⟩ := h
  have := a7.length_eq
  simp at this; omega
theorem Ranging.fr {S : Nat → Prop} {w w' : World} {mb r : Nat} {l done : List (ByteArray × Value)} (h : Ranging w mb r l done) (f : Fr S w w') (h1 : ¬ S mb) (h2 : ¬ S r) : Ranging w' mb r l done :=
  h.stab (f.block _ h.lt.1 h1) (f.block _ h.lt.2.1 h2)
theorem Ranging.mem {w : World} {mb r : Nat} {l done : List (ByteArray × Value)} (h : Ranging w mb r l done) : ∀ p ∈ done, p ∈ l := by
  obtain ⟨es, clock, since, seen, c0, a1, a2, a3, a4, a5, a6, a7⟩ := h
  intro p hp
  have : encP p ∈ l.map encP := a7.subset (List.mem_append_left _ (List.mem_map_of_mem hp))
  obtain ⟨q, hq, e⟩ := List.mem_map.1 this
  rwa [← encP_inj e]

theorem Ranging.left {w : World} {mb r : Nat} {l done : List (ByteArray × Value)} (h : Ranging w mb r l done) : w.rangeLeft mb r + done.length = l.length := by
  obtain ⟨es, clock, since, seen, c0, a1, a2, a3, a4, a5, a6, a7⟩ := h
  have := a7.length_eq
  simp only [World.rangeLeft, a1, a3]
  simp at this; omega

section
variable {P : Program} {w : World}
theorem run_range_mapIs {mb : Nat} {l : List (ByteArray × Value)} (h : MapIs w mb l) (t k e : TypeId) (ht : P.underlying t = some (.map k e)) :
    ∃ w', (Instr.range t (.map (some mb))).run P w = .ok (.pointer (some ⟨w.heap.size, 0, none⟩)) w' ∧ Ranging w' mb w.heap.size l [] ∧ Fr No w w' ∧ w'.heap.size = w.heap.size + 1 := by
  obtain ⟨es, clock, hb, he⟩ := h
  refine ⟨_, run_range_map w t k e mb es clock ht hb, ⟨es, clock, clock, #[], clock, (Below.heap_alloc _ _ mb (blk_lt hb)).trans hb, he, heap_alloc_new w _, he.st.1, Nat.le_refl _, Nat.le_refl _, ?_⟩, (Fr.refl No w).alloc _, by simp⟩
  have : (leftOf es #[]).toList = es.toList := by simp [leftOf]
  rw [this, List.map_nil, List.nil_append]
  have e := he.ents
  rw [show es.toList.map encE = l.map encP from e]

theorem filter_push {es : List MapEntry} {seen : Array Nat} {e : MapEntry} (hn : (es.map (·.born)).Nodup) (he : e ∈ es) (hs : seen.contains e.born = false) :
    (es.filter fun x => !seen.contains x.born).Perm (e :: es.filter fun x => !(seen.push e.born).contains x.born) := by
  induction es with
  | nil => cases he
  | cons x es ih =>
    rw [List.map_cons, List.nodup_cons] at hn
    rcases List.mem_cons.1 he with rfl | he
    · have e1 : (es.filter fun x => !(seen.push e.born).contains x.born) = es.filter fun x => !seen.contains x.born := by
        refine List.filter_congr fun y hy => ?_
        have : ¬ y.born = e.born := fun h => hn.1 (h ▸ List.mem_map_of_mem hy)
        have h2 : ¬ e.born = y.born := fun h => this h.symm
        simp [Array.mem_push, h2, this]
      rw [List.filter_cons, List.filter_cons, e1]
      have hs2 : ¬ e.born ∈ seen := by simpa using hs
      simp [hs2]
    · have := ih hn.2 he
      have hne : ¬ x.born = e.born := fun h => hn.1 (h ▸ List.mem_map_of_mem he)
      have hne2 : ¬ e.born = x.born := fun h => hne h.symm
      rw [List.filter_cons, List.filter_cons]
      have e2 : (seen.push e.born).contains x.born = seen.contains x.born := by
        rw [Bool.eq_iff_iff]; simp [Array.mem_push, hne, hne2]
      rw [e2]
      cases seen.contains x.born
      · simp only [Bool.not_false, if_true]
        exact (this.cons x).trans (List.Perm.swap _ _ _)
      · simpa using this

/-- One step: it is over, or one more has come. -/
theorem Ranging.next {mb r : Nat} {l done : List (ByteArray × Value)} (h : Ranging w mb r l done) (ty : TypeId) :
    (done.Perm l ∧ (Instr.next (.pointer (some ⟨r, 0, none⟩)) false ty).run P w = .ok (.tuple #[.bool false]) w) ∨
    ∃ p w', p ∈ l ∧ (Instr.next (.pointer (some ⟨r, 0, none⟩)) false ty).run P w = .ok (.tuple #[.bool true, .string p.1, p.2]) w' ∧ Ranging w' mb r l (done ++ [p]) ∧ Fr (fun i => i = r) w w' ∧ w'.heap.size = w.heap.size ∧
      (Instr.entry (.pointer (some ⟨r, 0, none⟩))).run P w' = .ok (.tuple #[.string p.1, p.2]) w' := by
  have hne := h.lt.2.2
  obtain ⟨es, clock, since, seen, c0, a1, a2, a3, a4, a5, a6, a7⟩ := h
  rcases run_next_at (P := P) w ty r mb since c0 seen es clock a3 a1 a4 a5 with ⟨h0, hrun⟩ | ⟨e, he, w1, hal, hrun⟩
  · refine .inl ⟨?_, hrun⟩
    have : (leftOf es seen).toList = [] := List.eq_nil_of_length_eq_zero (by simpa using h0)
    rw [this, List.map_nil, List.append_nil] at a7
    exact perm_of_map (fun _ _ => encP_inj) a7
  · obtain ⟨hem, hes⟩ := mem_left he
    have hk : (e.key, e.val) ∈ l.map encP := by
      have := a2.ents
      rw [show l.map encP = es.toList.map encE from this.symm]
      exact List.mem_map_of_mem (f := encE) hem
    obtain ⟨p, hp, hpe⟩ := List.mem_map.1 hk
    have e1 : e.key = .string p.1 := by have := congrArg Prod.fst hpe; exact this.symm
    have e2 : e.val = p.2 := by have := congrArg Prod.snd hpe; exact this.symm
    have hr1 : w1.heap[r]? = some (.mapIter (some mb) since seen c0) := by rcases hal with rfl | rfl <;> exact a3
    have hb1 : w1.heap[mb]? = some (.map es clock) := by rcases hal with rfl | rfl <;> exact a1
    have hset := heap_set (o' := .mapIter (some mb) since (seen.push e.born) clock) hr1
    have hb' : (setBlock w1 r (.mapIter (some mb) since (seen.push e.born) clock)).heap[mb]? = some (.map es clock) := (hset.2 mb (fun e1 => hne e1.symm)).trans hb1
    have hent := run_entry_at (P := P) _ r mb since seen es clock e hset.1 hb' hem ((stamped_iff es clock).1 a2.st).2.1
    rw [e1, e2] at hent hrun
    refine .inr ⟨p, _, hp, hrun, ⟨es, clock, since, seen.push e.born, clock, hb', a2, hset.1, a4, a6, a6, ?_⟩, ?_, ?_, hent⟩
    · have hf := filter_push ((stamped_iff es clock).1 a2.st).2.1 hem (by simpa using hes)
      have hl : (leftOf es seen).toList = es.toList.filter fun x => !seen.contains x.born := by unfold leftOf; rw [Array.toList_filter]
      have hl' : (leftOf es (seen.push e.born)).toList = es.toList.filter fun x => !(seen.push e.born).contains x.born := by unfold leftOf; rw [Array.toList_filter]
      rw [hl] at a7
      rw [hl']
      refine List.Perm.trans ?_ a7
      have hpE : encP p = encE e := hpe
      rw [List.map_append, List.map_cons, List.map_nil, hpE, List.append_assoc]
      refine List.Perm.append_left _ ?_
      exact ((hf.map encE).symm)
    · rcases hal with rfl | rfl <;> exact ⟨rfl, rfl, rfl, by simp [setBlock], fun i _ hi => hset.2 i hi⟩
    · rcases hal with rfl | rfl <;> simp [setBlock]

variable {ops : Array Oper} {rest : List Oper} {o : Oper} {a : Act} {Q : Exit → Act → World → Prop}
theorem wpList_mapIs_range (hg : o.guard = none) (m : Operand) (t : TypeId) (hop : o.op = Op.range t m) (k e : TypeId) (ht : P.underlying t = some (.map k e)) {mb : Nat} {l : List (ByteArray × Value)}
    (hm : a.eval m = .map (some mb)) (h : MapIs w mb l)
    (hK : ∀ w', Ranging w' mb w.heap.size l [] → Fr No w w' → w'.heap.size = w.heap.size + 1 → wpList P ops Q rest (a.put o.dst (.pointer (some ⟨w.heap.size, 0, none⟩))) w') :
    wpList P ops Q (o :: rest) a w := by
  refine wpList_plain hg fun K' hK' => ?_
  obtain ⟨w', hrun, r1, r2, r3⟩ := run_range_mapIs (P := P) h t k e ht
  unfold Oper.wp
  simp [execOp, hop, hm, hrun, Result.andThen]
  exact hK' _ _ (hK w' r1 r2 r3)
theorem wpList_mapIs_next (hg : o.guard = none) (it : Operand) (hop : o.op = Op.next it false) {mb r : Nat} {l done : List (ByteArray × Value)} (hit : a.eval it = .pointer (some ⟨r, 0, none⟩)) (h : Ranging w mb r l done)
    (hDone : done.Perm l → wpList P ops Q rest (a.put o.dst (.tuple #[.bool false])) w)
    (hMore : ∀ p w', p ∈ l → Ranging w' mb r l (done ++ [p]) → Fr (fun i => i = r) w w' → w'.heap.size = w.heap.size → (Instr.entry (.pointer (some ⟨r, 0, none⟩))).run P w' = .ok (.tuple #[.string p.1, p.2]) w' → wpList P ops Q rest (a.put o.dst (.tuple #[.bool true, .string p.1, p.2])) w') :
    wpList P ops Q (o :: rest) a w := by
  refine wpList_plain hg fun K' hK' => ?_
  unfold Oper.wp
  rcases h.next (P := P) o.type with ⟨hp, hrun⟩ | ⟨p, w', hp, hrun, h1, h2, h3, h4⟩
  · simp [execOp, hop, hit, hrun, Result.andThen]
    exact hK' _ _ (hDone hp)
  · simp [execOp, hop, hit, hrun, Result.andThen]
    exact hK' _ _ (hMore p w' hp h1 h2 h3 h4)
end
end Go.Proofs.Ytkcppngopdiljaa
