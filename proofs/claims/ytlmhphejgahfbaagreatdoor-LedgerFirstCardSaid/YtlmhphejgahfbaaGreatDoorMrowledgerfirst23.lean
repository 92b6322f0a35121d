/- Texts of this claim, one behind the other: RangeI, Below, Store4, Store5. -/
import Derived.Test.YtlmhphejgahfbaaGreatDoorMrowledgerfirst13
import Derived.Test.YtlmhphejgahfbaaGreatDoorMrowledgerfirst22
import Derived.Maps.RangeWalk
import Derived.Test.YtlmhphejgahfbaaGreatDoorMrowledgerfirst18
/- 'for _, v := range m' of a map keyed by ints (printed by genrangei.py): what has come, in whichever order. -/
set_option linter.unusedVariables false
set_option linter.unusedSimpArgs false
namespace Go.Proofs.YtlmhphejgahfbaaGreatDoor
open Go.RowKit Go.MapKept
open Go.ChangeMaps (setBlock)

def encPI (p : Int × Value) : Value × Value := (Value.int .i64 p.1, p.2)
def encEI (e : MapEntry) : Value × Value := (e.key, e.val)
theorem encP_injI {p q : Int × Value} (h : encPI p = encPI q) : p = q := by
  unfold encPI at h
  injection h with h1 h2
  injection h1 with _ h1
  exact Prod.ext h1 h2

/-- Under way: done has come (each once); r is the iterator's block. -/
def RangingI (w : World) (mb r : Nat) (l done : List (Int × Value)) : Prop :=
  ∃ es clock since seen c0, w.heap[mb]? = some (.map es clock) ∧ EsI es clock l ∧ w.heap[r]? = some (.mapIter (some mb) since seen c0) ∧ (∀ x ∈ es.toList, x.born < since) ∧ since ≤ c0 ∧ since ≤ clock ∧
    (done.map encPI ++ (leftOf es seen).toList.map encEI).Perm (l.map encPI)

theorem RangingI.stab {w w' : World} {mb r : Nat} {l done : List (Int × Value)} (h : RangingI w mb r l done) (h1 : w'.heap[mb]? = w.heap[mb]?) (h2 : w'.heap[r]? = w.heap[r]?) : RangingI w' mb r l done := by
  obtain ⟨es, clock, since, seen, c0, a1, a2, a3, a4⟩ := h
  exact ⟨es, clock, since, seen, c0, h1.trans a1, a2, h2.trans a3, a4⟩
theorem RangingI.lt {w : World} {mb r : Nat} {l done : List (Int × Value)} (h : RangingI w mb r l done) : mb < w.heap.size ∧ r < w.heap.size ∧ r ≠ mb := by
  obtain ⟨es, clock, since, seen, c0, a1, a2, a3, a4⟩ := h
  refine ⟨blk_lt a1, blk_lt a3, ?_⟩
  rintro rfl
  rw [a1] at a3
  cases a3
theorem RangingI.len {w : World} {mb r : Nat} {l done : List (Int × Value)} (h : RangingI w mb r l done) : done.length ≤ l.length := by
  obtain ⟨es, clock, since, seen, c0, a1, a2, a3, a4, a5, a6, a7⟩ := h
  have := a7.length_eq
  simp at this; omega
theorem RangingI.fr {S : Nat → Prop} {w w' : World} {mb r : Nat} {l done : List (Int × Value)} (h : RangingI w mb r l done) (f : Fr S w w') (h1 : ¬ S mb) (h2 : ¬ S r) : RangingI w' mb r l done :=
  h.stab (f.block _ h.lt.1 h1) (f.block _ h.lt.2.1 h2)
theorem RangingI.mem {w : World} {mb r : Nat} {l done : List (Int × Value)} (h : RangingI w mb r l done) : ∀ p ∈ done, p ∈ l := by
  obtain ⟨es, clock, since, seen, c0, a1, a2, a3, a4, a5, a6, a7⟩ := h
  intro p hp
  have : encPI p ∈ l.map encPI := a7.subset (List.mem_append_left _ (List.mem_map_of_mem hp))
  obtain ⟨q, hq, e⟩ := List.mem_map.1 this
  rwa [← encP_injI e]

theorem RangingI.left {w : World} {mb r : Nat} {l done : List (Int × Value)} (h : RangingI w mb r l done) : w.rangeLeft mb r + done.length = l.length := by
  obtain ⟨es, clock, since, seen, c0, a1, a2, a3, a4, a5, a6, a7⟩ := h
  have := a7.length_eq
  simp only [World.rangeLeft, a1, a3]
  simp at this; omega

section
variable {P : Program} {w : World}
theorem run_range_mapII {mb : Nat} {l : List (Int × Value)} (h : MapII w mb l) (t k e : TypeId) (ht : P.underlying t = some (.map k e)) :
    ∃ w', (Instr.range t (.map (some mb))).run P w = .ok (.pointer (some ⟨w.heap.size, 0, none⟩)) w' ∧ RangingI w' mb w.heap.size l [] ∧ Fr No w w' ∧ w'.heap.size = w.heap.size + 1 := by
  obtain ⟨es, clock, hb, he⟩ := h
  refine ⟨_, run_range_map w t k e mb es clock ht hb, ⟨es, clock, clock, #[], clock, (Below.heap_alloc _ _ mb (blk_lt hb)).trans hb, he, heap_alloc_new w _, he.st.1, Nat.le_refl _, Nat.le_refl _, ?_⟩, (Fr.refl No w).alloc _, by simp⟩
  have : (leftOf es #[]).toList = es.toList := by simp [leftOf]
  rw [this, List.map_nil, List.nil_append]
  have e := he.ents
  rw [show es.toList.map encEI = l.map encPI from e]


/-- One step: it is over, or one more has come. -/
theorem RangingI.next {mb r : Nat} {l done : List (Int × Value)} (h : RangingI w mb r l done) (ty : TypeId) :
    (done.Perm l ∧ (Instr.next (.pointer (some ⟨r, 0, none⟩)) false ty).run P w = .ok (.tuple #[.bool false]) w) ∨
    ∃ p w', p ∈ l ∧ (Instr.next (.pointer (some ⟨r, 0, none⟩)) false ty).run P w = .ok (.tuple #[.bool true, .int .i64 p.1, p.2]) w' ∧ RangingI w' mb r l (done ++ [p]) ∧ Fr (fun i => i = r) w w' ∧ w'.heap.size = w.heap.size ∧
      (Instr.entry (.pointer (some ⟨r, 0, none⟩))).run P w' = .ok (.tuple #[.int .i64 p.1, p.2]) w' := by
  have hne := h.lt.2.2
  obtain ⟨es, clock, since, seen, c0, a1, a2, a3, a4, a5, a6, a7⟩ := h
  rcases run_next_at (P := P) w ty r mb since c0 seen es clock a3 a1 a4 a5 with ⟨h0, hrun⟩ | ⟨e, he, w1, hal, hrun⟩
  · refine .inl ⟨?_, hrun⟩
    have : (leftOf es seen).toList = [] := List.eq_nil_of_length_eq_zero (by simpa using h0)
    rw [this, List.map_nil, List.append_nil] at a7
    exact perm_of_map (fun _ _ => encP_injI) a7
  · obtain ⟨hem, hes⟩ := mem_left he
    have hk : (e.key, e.val) ∈ l.map encPI := by
      have := a2.ents
      rw [show l.map encPI = es.toList.map encEI from this.symm]
      exact List.mem_map_of_mem (f := encEI) hem
    obtain ⟨p, hp, hpe⟩ := List.mem_map.1 hk
    have e1 : e.key = .int .i64 p.1 := by have := congrArg Prod.fst hpe; exact this.symm
    have e2 : e.val = p.2 := by have := congrArg Prod.snd hpe; exact this.symm
    have hr1 : w1.heap[r]? = some (.mapIter (some mb) since seen c0) := by rcases hal with rfl | rfl <;> exact a3
    have hb1 : w1.heap[mb]? = some (.map es clock) := by rcases hal with rfl | rfl <;> exact a1
    have hset := heap_set (o' := .mapIter (some mb) since (seen.push e.born) clock) hr1
    have hb' : (setBlock w1 r (.mapIter (some mb) since (seen.push e.born) clock)).heap[mb]? = some (.map es clock) := (hset.2 mb (fun e1 => hne e1.symm)).trans hb1
    have hent := run_entry_at (P := P) _ r mb since seen es clock e hset.1 hb' hem ((stamped_iff es clock).1 a2.st).2.1
    rw [e1, e2] at hent hrun
    refine .inr ⟨p, _, hp, hrun, ⟨es, clock, since, seen.push e.born, clock, hb', a2, hset.1, a4, a6, a6, ?_⟩, ?_, ?_, hent⟩
    · have hf := filter_push ((stamped_iff es clock).1 a2.st).2.1 hem (by simpa using hes)
      have hl : (leftOf es seen).toList = es.toList.filter fun x => !seen.contains x.born := by unfold leftOf; rw [Array.toList_filter]
      have hl' : (leftOf es (seen.push e.born)).toList = es.toList.filter fun x => !(seen.push e.born).contains x.born := by unfold leftOf; rw [Array.toList_filter]
      rw [hl] at a7
      rw [hl']
      refine List.Perm.trans ?_ a7
      have hpE : encPI p = encEI e := hpe
      rw [List.map_append, List.map_cons, List.map_nil, hpE, List.append_assoc]
      refine List.Perm.append_left _ ?_
      exact ((hf.map encEI).symm)
    · rcases hal with rfl | rfl <;> exact ⟨rfl, rfl, rfl, by simp [setBlock], fun i _ hi => hset.2 i hi⟩
    · rcases hal with rfl | rfl <;> simp [setBlock]

variable {ops : Array Oper} {rest : List Oper} {o : Oper} {a : Act} {Q : Exit → Act → World → Prop}
theorem wpList_mapII_range (hg : o.guard = none) (m : Operand) (t : TypeId) (hop : o.op = Op.range t m) (k e : TypeId) (ht : P.underlying t = some (.map k e)) {mb : Nat} {l : List (Int × Value)}
    (hm : a.eval m = .map (some mb)) (h : MapII w mb l)
    (hK : ∀ w', RangingI w' mb w.heap.size l [] → Fr No w w' → w'.heap.size = w.heap.size + 1 → wpList P ops Q rest (a.put o.dst (.pointer (some ⟨w.heap.size, 0, none⟩))) w') :
    wpList P ops Q (o :: rest) a w := by
  refine wpList_plain hg fun K' hK' => ?_
  obtain ⟨w', hrun, r1, r2, r3⟩ := run_range_mapII (P := P) h t k e ht
  unfold Oper.wp
  simp [execOp, hop, hm, hrun, Result.andThen]
  exact hK' _ _ (hK w' r1 r2 r3)
theorem wpList_mapII_next (hg : o.guard = none) (it : Operand) (hop : o.op = Op.next it false) {mb r : Nat} {l done : List (Int × Value)} (hit : a.eval it = .pointer (some ⟨r, 0, none⟩)) (h : RangingI w mb r l done)
    (hDone : done.Perm l → wpList P ops Q rest (a.put o.dst (.tuple #[.bool false])) w)
    (hMore : ∀ p w', p ∈ l → RangingI w' mb r l (done ++ [p]) → Fr (fun i => i = r) w w' → w'.heap.size = w.heap.size → (Instr.entry (.pointer (some ⟨r, 0, none⟩))).run P w' = .ok (.tuple #[.int .i64 p.1, p.2]) w' → wpList P ops Q rest (a.put o.dst (.tuple #[.bool true, .int .i64 p.1, p.2])) w') :
    wpList P ops Q (o :: rest) a w := by
  refine wpList_plain hg fun K' hK' => ?_
  unfold Oper.wp
  rcases h.next (P := P) o.type with ⟨hp, hrun⟩ | ⟨p, w', hp, hrun, h1, h2, h3, h4⟩
  · simp [execOp, hop, hit, hrun, Result.andThen]
    exact hK' _ _ (hDone hp)
  · simp [execOp, hop, hit, hrun, Result.andThen]
    exact hK' _ _ (hMore p w' hp h1 h2 h3 h4)
end
end Go.Proofs.YtlmhphejgahfbaaGreatDoor
/- Layer 15 (ledger): below. -/
set_option linter.unusedVariables false
set_option linter.unusedSimpArgs false
namespace Go.Proofs.YtlmhphejgahfbaaGreatDoor
open Go.RowKit

theorem foldl_least {α : Type} (f : α → Int) (l : List α) : ∀ (a m : Int), m ≤ a → (∀ x ∈ l, m ≤ f x) → (m = a ∨ ∃ x ∈ l, m = f x) → l.foldl (fun a x => min a (f x)) a = m := by
  induction l with
  | nil =>
    intro a m h1 h2 h3
    rcases h3 with h3 | ⟨x, hx, _⟩
    · exact h3.symm
    · cases hx
  | cons y l ih =>
    intro a m h1 h2 h3
    rw [List.foldl_cons]
    have hy := h2 y (List.mem_cons_self ..)
    refine ih _ _ (by omega) (fun x hx => h2 x (List.mem_cons_of_mem _ hx)) ?_
    rcases h3 with h3 | ⟨x, hx, h3⟩
    · left; omega
    · rcases List.mem_cons.1 hx with rfl | hx
      · left; omega
      · exact .inr ⟨x, hx, h3⟩
/-- The least so far. -/
structure LeastOf (L : Led) (m : Int) (done : List (Int × Value)) : Prop where
  now : m ≤ L.s.now
  all : ∀ p ∈ done, ∀ x, L.find p.1 = some x → m ≤ x.base
  one : m = L.s.now ∨ ∃ x ∈ L.txs, m = x.base
set_option maxHeartbeats 1000000 in
set_option maxRecDepth 100000 in
theorem led_below {w : World} {col : Nat → Nat} {lb : Nat} {L : Led} {A : Option Addr} {c sb mb : Nat} {vst : Value} {l : List (Int × Value)} (hP : LedP w col lb L A c sb mb vst l) (hfind : ∀ x ∈ L.txs, L.find x.id = some x) :
    Calls Tryz.prog 81 #[.pointer (some ⟨lb, 0, none⟩)] w fun e w' => e = .returned (.int .i64 L.below) ∧ Fr No w w' := by
  have hnow := store_now hP.sto
  have c1 := blk_cell hP.blk 1
  have c2 := blk_cell hP.blk 2
  simp at c1 c2
  have hent : ∀ p ∈ l, ∃ x xb, L.find p.1 = some x ∧ p.2 = .pointer (some ⟨xb, 0, none⟩) ∧ x ∈ L.txs ∧ TxAt w (fun i => i < w.heap.size) xb x.base x.ws := fun p hp => by
    have hl := look_of_memI hP.map.nodup (show (p.1, p.2) ∈ l from hp)
    cases hx : L.find p.1 with
    | none => rw [hP.txs.none_ _ hx] at hl; cases hl
    | some x =>
      obtain ⟨xb, h1, h2⟩ := hP.txs.some_ _ x hx
      rw [hl] at h1
      exact ⟨x, xb, rfl, Option.some.inj h1, (find_id hx).2, h2.mono fun i hi hl => hl⟩
  have hall : ∀ x ∈ L.txs, ∃ v, (x.id, v) ∈ l := fun x hx => by
    obtain ⟨xb, h1, _⟩ := hP.txs.some_ _ x (hfind x hx)
    exact ⟨_, look_memI h1⟩
  have H := Lib.hid (And.intro hP (And.intro hfind (And.intro hnow (And.intro hent hall))))
  clear hP hfind hnow hent hall
  go_enter Tryz.func81, Tryz.ntmps81
  go_wp2_with fail
  refine H.out.2.2.1.mono ?_
  rintro e w ⟨rfl, rfl⟩
  go_wp2_with (at_range; refine wpList_mapII_range rfl _ 84 rfl _ _ Tryz.underlying84 rfl H.out.1.map ?_; intro w3 hrg hf3 hs3; have HR := Lib.hid (And.intro hrg hf3); clear hrg hf3 hs3)
  go_frame
  go_loopw [3] (fun v wr => ∃ (m : Int) (done : List (Int × Value)), v = .int .i64 m ∧ Hid (RangingI wr mb w.heap.size l done ∧ Fr No w wr ∧ LeastOf L m done)) (fun _ wr => wr.rangeLeft mb w.heap.size)
  case atStart => exact ⟨_, [], rfl, HR.out.1, HR.out.2, ⟨Int.le_refl _, fun p hp => (by cases hp), .inl rfl⟩⟩
  case round =>
    obtain ⟨m, done, rfl, I⟩ := hrel
    go_wp2_with (first
      | (at_next; refine wpList_mapII_next rfl _ rfl rfl I.out.1 (fun hperm => ?_) (fun p w5 hp hrg hf5 hs5 hent => ?_); (have HP := Lib.hid hperm; clear hperm); rotate_left; (obtain ⟨x, xb, hx, hv, hxm, hT⟩ := H.out.2.2.2.1 p hp; obtain ⟨id, v5⟩ := p; dsimp only at hx hv hent; subst hv; have hbase := tx_base ((hT.fr0 I.out.2.1).fr hf5 (fun i hi e => by have h1 : i < w.heap.size := hi; omega)); have HN := Lib.hid (And.intro hp (And.intro hrg (And.intro hf5 (And.intro hs5 (And.intro hx (And.intro hxm hbase)))))); clear hp hrg hf5 hs5 hx hxm hT hbase))
      | (go_at_call 152; refine HN.out.2.2.2.2.2.2.mono ?_; rintro e w5 ⟨rfl, rfl⟩))
    · go_roundw
      case rel =>
        refine ⟨_, done ++ [(id, .pointer (some ⟨xb, 0, none⟩))], rfl, HN.out.2.1, I.out.2.1.next HN.out.2.2.1 (fun i hi e => by omega), ?_⟩
        have hL := I.out.2.2
        refine ⟨by have := hL.now; omega, fun p hp y hy => ?_, ?_⟩
        · rcases List.mem_append.1 hp with hp | hp
          · have := hL.all p hp y hy; omega
          · obtain rfl : p = _ := List.mem_singleton.1 hp
            have h1 := HN.out.2.2.2.2.1
            rw [h1] at hy
            obtain rfl : x = y := Option.some.inj hy
            omega
        · rcases Int.le_total m x.base with h | h
          · rcases hL.one with h3 | ⟨y, hy, h3⟩
            · left; omega
            · exact .inr ⟨y, hy, by omega⟩
          · exact .inr ⟨x, HN.out.2.2.2.2.2.1, by omega⟩
      case measure =>
        have a1 := I.out.1.left
        have a2 := HN.out.2.1.left
        simp only [List.length_append, List.length_singleton] at a2
        omega
    · go_ret
      have hL := I.out.2.2
      have hm : L.below = m := foldl_least _ _ _ _ hL.now (fun x hx => by
        obtain ⟨v, hv⟩ := H.out.2.2.2.2 x hx
        exact hL.all _ (HP.out.symm.subset hv) x (H.out.2.1 x hx)) hL.one
      exact ⟨by rw [hm]; rfl, I.out.2.1⟩
end Go.Proofs.YtlmhphejgahfbaaGreatDoor
/- Layer 13 (store): Len and Trim. -/
set_option linter.unusedVariables false
set_option linter.unusedSimpArgs false
namespace Go.Proofs.YtlmhphejgahfbaaGreatDoor
open Go.RowKit

theorem sum_le (l : List Nat) (c : Nat) (h : ∀ x ∈ l, x ≤ c) : l.sum ≤ l.length * c := by
  induction l with
  | nil => simp
  | cons x l ih =>
    have h1 := h x (List.mem_cons_self ..)
    have h2 := ih fun y hy => h y (List.mem_cons_of_mem _ hy)
    rw [List.sum_cons, List.length_cons, Nat.add_mul]
    omega
theorem sum_take {l : List Nat} {k : Nat} (hk : k < l.length) : (l.take (k + 1)).sum = (l.take k).sum + l[k] := by
  rw [List.take_succ_eq_append_getElem hk, List.sum_append]; simp
theorem sum_take_le (l : List Nat) (k : Nat) : (l.take k).sum ≤ l.sum := by
  conv => rhs; rw [← List.take_append_drop k l, List.sum_append]
  omega

set_option maxHeartbeats 1000000 in
theorem store_len {w : World} {F : Nat → Prop} {sb : Nat} {s : Sto} {m : Nat} (h : StoreAt w F sb s) (hs : s.Small m) (hm : m ≤ 100000000) :
    Calls Tryz.prog 82 #[.pointer (some ⟨sb, 0, none⟩)] w fun e w' => e = .returned (.int .i64 s.len) ∧ Fr No w w' := by
  have hk := store_keys h hs hm
  have hkl : (s.kc.length : Int) ≤ 100000000 := by have := hs.keys; omega
  have hsum : s.len ≤ 10000000000000000 := by
    have := sum_le (s.kc.map fun p => p.2.l.length) 100000000 (fun x hx => by
      obtain ⟨p, hp, rfl⟩ := List.mem_map.1 hx
      have := (hs.chains p hp).1; omega)
    rw [List.length_map] at this
    unfold Sto.len; omega
  have HH := Lib.hid (And.intro hk (And.intro h (And.intro hs hm)))
  clear hk h hs hm
  go_enter Tryz.func82, Tryz.ntmps82
  go_wp2_with (go_at_call 150; refine HH.out.1.mono ?_; rintro e w1 ⟨A, c, rfl, hr, hc, hf1⟩; have HR := Lib.hid (And.intro hr hf1); clear hr hf1)
  go_loop [3, 9] (fun v i => ∃ (k n : Nat), k ≤ s.kc.length ∧ v = .int .i64 n ∧ i = .int .i64 k ∧ Hid (n = ((s.kc.map fun p => p.2.l.length).take k).sum)) (fun _ i => s.kc.length - (intOf i).toNat)
  case atStart => exact ⟨0, 0, Nat.zero_le _, rfl, rfl, by show _ = _; simp⟩
  case round =>
    obtain ⟨k, n, hk, rfl, rfl, I⟩ := hrel
    by_cases hlt : k < s.kc.length
    · obtain ⟨ad, rfl, x0⟩ := str_at HR.out.1 (i := k) (by simpa using hlt)
      obtain ⟨h1, mb, l, G, h2, h3, h4, h5, h6, h7⟩ := HH.out.2.1.fr0 HR.out.2
      have c0 := blk_cell h4 0
      have hm := List.getElem_mem hlt
      have hlk := look_of_mem h6.rising.nodup (show (s.kc[k].1, s.kc[k].2) ∈ s.kc from hm)
      obtain ⟨v, hv⟩ : ∃ v, look s.kc[k].1 l = some v := by
        cases hl : look s.kc[k].1 l with
        | none => rw [(h6.keys _).1 hl] at hlk; cases hlk
        | some v => exact ⟨v, rfl⟩
      obtain ⟨b, rfl, hb⟩ := h6.at_ _ _ _ hv hlk
      have hrun := (run_map_look (P := Tryz.prog) h5 157 _ _ Tryz.underlying157 Tryz.underlying9 _ (zero_chain w1) s.kc[k].1).1
      rw [hv, Option.getD_some] at hrun
      have hlen := chain_len hb
      have hst := sum_take (l := s.kc.map fun p => p.2.l.length) (k := k) (by simpa using hlt)
      rw [List.getElem_map] at hst x0
      have hle := sum_take_le (s.kc.map fun p => p.2.l.length) (k + 1)
      rw [hst] at hle
      have hnb : (n : Int) + (s.kc[k].2.l.length : Int) ≤ 10000000000000000 := by
        have e := I.out
        have : n + s.kc[k].2.l.length ≤ s.len := by rw [e]; exact hle
        omega
      have HL := Lib.hid (And.intro hlen hst)
      clear h1 h2 h3 h4 h5 h6 h7 hm hlk hv hb hlen hst hle
      simp at c0
      generalize hky : s.kc[k].1 = ky at *
      generalize hln : s.kc[k].2.l.length = ln at *
      clear hky hln
      have hk0 : (0 : Int) ≤ (k : Int) := Int.natCast_nonneg _
      have hk1 : (k : Int) < (s.kc.length : Int) := by omega
      have hn0 : (0 : Int) ≤ (n : Int) := Int.natCast_nonneg _
      have hl0 : (0 : Int) ≤ (ln : Int) := Int.natCast_nonneg _
      go_wp2_with (go_at_call 153; refine HL.out.1.mono ?_; rintro e w' ⟨rfl, rfl⟩)
      go_round
      case rel => exact ⟨k + 1, n + ln, by omega, by go_num, by go_num, by show _ = _; rw [HL.out.2, ← I.out]⟩
      case measure => simp [intOf]; omega
    · obtain rfl : k = s.kc.length := by omega
      have e : n = s.len := by
        have e := I.out
        have h2 : (s.kc.map fun p => p.2.l.length).take s.kc.length = s.kc.map fun p => p.2.l.length := List.take_of_length_le (by simp)
        rw [h2] at e
        exact e
      have E := Lib.hid e
      clear e
      go_wp2
      go_ret
      exact ⟨by rw [← E.out]; rfl, HR.out.2⟩
theorem store_len_nil (w : World) : Calls Tryz.prog 82 #[.pointer none] w fun e w' => e = .returned (.int .i64 0) ∧ w' = w := by
  go_enter Tryz.func82, Tryz.ntmps82
  go_wp2_with (go_at_call 150; refine (store_keys_nil _).mono ?_; rintro e w1 ⟨rfl, rfl⟩)
  refine wp_loop_rounds 1 ?_; rw [rounds_succ]
  go_wp2
  go_ret
  exact ⟨rfl, rfl⟩
end Go.Proofs.YtlmhphejgahfbaaGreatDoor
/- Layer 13 (store): Trim. -/
set_option linter.unusedVariables false
set_option linter.unusedSimpArgs false
namespace Go.Proofs.YtlmhphejgahfbaaGreatDoor
open Go.RowKit

theorem slay_at {β : Type} {l : List (ByteArray × β)} (h : Rising (l.map Prod.fst)) {j : Nat} {k : ByteArray} {v0 v : β} (hj : l[j]? = some (k, v0)) : slay k v l = l.set j (k, v) := by
  induction l generalizing j with
  | nil => simp at hj
  | cons p l ih =>
    obtain ⟨h1, h2⟩ := List.pairwise_cons.1 h
    rw [slay_cons]
    cases j with
    | zero =>
      obtain rfl : p = (k, v0) := by simpa using hj
      rw [if_neg (by simp [kl_irrefl]), if_pos rfl]
      rfl
    | succ j =>
      have hj' : l[j]? = some (k, v0) := by simpa using hj
      have hk := h1 k (List.mem_map.2 ⟨_, List.mem_of_getElem? hj', rfl⟩)
      rw [if_neg (by rw [kl_asymm hk]; simp), if_neg (fun e => kl_ne hk e.symm), ih h2 hj']
      rfl

namespace Sto
/-- k chains are trimmed. -/
def trimK (s : Sto) (a : Int) (k : Nat) : List (ByteArray × Chn) := (s.kc.take k).map (fun p => (p.1, p.2.trim a)) ++ s.kc.drop k
theorem trimK_zero (s : Sto) (a : Int) : s.trimK a 0 = s.kc := by simp [trimK]
theorem trimK_all (s : Sto) (a : Int) : s.trimK a s.kc.length = (s.trim a).kc := by simp [trimK, trim]
theorem trimK_keys (s : Sto) (a : Int) (k : Nat) : (s.trimK a k).map Prod.fst = s.kc.map Prod.fst := by
  unfold trimK
  rw [List.map_append, List.map_map]
  have : (Prod.fst ∘ fun p : ByteArray × Chn => (p.1, p.2.trim a)) = Prod.fst := rfl
  rw [this, ← List.map_append, List.take_append_drop]
theorem trimK_at {s : Sto} {a : Int} {k : Nat} (hk : k < s.kc.length) : (s.trimK a k)[k]? = some s.kc[k] := by
  unfold trimK
  rw [List.getElem?_append_right (by simp; omega)]
  simp [Nat.min_eq_left (Nat.le_of_lt hk), hk]
theorem trimK_succ {s : Sto} {a : Int} {k : Nat} (hk : k < s.kc.length) : (s.trimK a k).set k (s.kc[k].1, s.kc[k].2.trim a) = s.trimK a (k + 1) := by
  unfold trimK
  rw [List.take_succ_eq_append_getElem hk, List.map_append, List.append_assoc]
  rw [List.set_append, if_neg (by simp; omega)]
  congr 1
  rw [List.length_map, List.length_take, Nat.min_eq_left (Nat.le_of_lt hk), Nat.sub_self, List.drop_eq_getElem_cons hk]
  rfl
end Sto

/-- What the loop holds at a round's head. -/
structure TrimInv (w w1 : World) (F : Nat → Prop) (sb mb : Nat) (l : List (ByteArray × Value)) (s : Sto) (a : Int) (k n : Nat) (wr : World) : Prop where
  le : k ≤ s.kc.length
  sum : n = ((s.kc.map fun p => p.2.cut a).take k).sum
  blk : wr.heap[sb]? = some (.cells #[.map (some mb), .int .i64 s.now] 159 (0, 0))
  mp : MapIs wr mb l
  held : ∃ G, Held wr l (s.trimK a k) G ∧ ∀ k i, G k i → ((F i ∧ i < w.heap.size) ∨ w1.heap.size ≤ i) ∧ i ≠ sb ∧ i ≠ mb
  fr : Fr (fun i => F i ∧ i < w.heap.size) w1 wr

set_option maxHeartbeats 1000000 in
theorem store_trim {w : World} {F : Nat → Prop} {sb : Nat} {s : Sto} {m : Nat} (h : StoreAt w F sb s) (hs : s.Small m) (hm : m ≤ 100000000) (a : Int) :
    Calls Tryz.prog 80 #[.pointer (some ⟨sb, 0, none⟩), .int .i64 a] w fun e w' => e = .returned (.int .i64 (s.cut a)) ∧ StoreAt w' (fun i => F i ∨ w.heap.size ≤ i) sb (s.trim a) ∧ Fr F w w' := by
  have hk := store_keys h hs hm
  have hkl : (s.kc.length : Int) ≤ 100000000 := by have := hs.keys; omega
  have hcutle : ∀ c : Chn, c.cut a ≤ c.l.length := fun c => by
    have := seen_le c a
    unfold Chn.cut
    split
    · split
      · omega
      · split <;> omega
    · omega
  have hsum : s.cut a ≤ 10000000000000000 := by
    have := sum_le (s.kc.map fun p => p.2.cut a) 100000000 (fun x hx => by
      obtain ⟨p, hp, rfl⟩ := List.mem_map.1 hx
      have := (hs.chains p hp).1
      have := hcutle p.2
      omega)
    rw [List.length_map] at this
    unfold Sto.cut; omega
  have hr0 := h.rising
  obtain ⟨h1, mb, l, G, h2, h3, h4, h5, h6, h7⟩ := h
  have hlt0 : sb < w.heap.size ∧ mb < w.heap.size := ⟨blk_lt h4, h5.lt⟩
  have HH := Lib.hid (And.intro hk (And.intro (And.intro h1 (And.intro h2 (And.intro h4 (And.intro h5 (And.intro h6 h7))))) (And.intro hs (And.intro hm (And.intro hr0 (And.intro hlt0 h3))))))
  clear hk hs hm hr0 h1 h2 h3 h4 h5 h6 h7 hlt0 hcutle
  go_enter Tryz.func80, Tryz.ntmps80
  go_wp2_with (go_at_call 150; refine HH.out.1.mono ?_; rintro e w1 ⟨A, c, rfl, hr, hc, hf1⟩; have HR := Lib.hid (And.intro (hr.mono fun i hi hl => (⟨hi, hl⟩ : w.heap.size ≤ i ∧ i < w1.heap.size)) hf1); clear hr hf1)
  go_loopw [5, 11] (fun v i wr => ∃ (k n : Nat), v = .int .i64 n ∧ i = .int .i64 k ∧ Hid (TrimInv w w1 F sb mb l s a k n wr)) (fun _ i _ => s.kc.length - (intOf i).toNat)
  case atStart =>
    obtain ⟨h1, h2, h4, h5, h6, h7⟩ := HH.out.2.1
    refine ⟨0, 0, rfl, rfl, ⟨Nat.zero_le _, by simp, HR.out.2.blk h4 (fun f => f), h5.stab (HR.out.2.block _ h5.lt (fun f => f)), ⟨G, by rw [Sto.trimK_zero]; exact h6.fr0 HR.out.2, fun k i hi => ⟨.inl ⟨(h7 k i hi).1, h6.lt k i hi⟩, (h7 k i hi).2⟩⟩, Fr.refl _ _⟩⟩
  case round =>
    obtain ⟨k, n, rfl, rfl, I⟩ := hrel
    by_cases hlt : k < s.kc.length
    · obtain ⟨ad, rfl, x0⟩ := str_at (HR.out.1.stab (w' := wr) fun i hi hl => I.out.fr.block i hl fun hf => by have := hf.2; have := hi.1; omega) (i := k) (by simpa using hlt)
      obtain ⟨G', hG, hGF⟩ := I.out.held
      have c0 := blk_cell I.out.blk 0
      have hat := Sto.trimK_at (a := a) hlt
      have hrk : Rising ((s.trimK a k).map Prod.fst) := hG.rising
      have hlk : look s.kc[k].1 (s.trimK a k) = some s.kc[k].2 := look_of_mem hrk.nodup (List.mem_of_getElem? hat)
      obtain ⟨v, hv⟩ : ∃ v, look s.kc[k].1 l = some v := by
        cases hl : look s.kc[k].1 l with
        | none => rw [(hG.keys _).1 hl] at hlk; cases hlk
        | some v => exact ⟨v, rfl⟩
      obtain ⟨b, rfl, hb⟩ := hG.at_ _ _ _ hv hlk
      have hrun := (run_map_look (P := Tryz.prog) I.out.mp 157 _ _ Tryz.underlying157 Tryz.underlying9 _ (zero_chain wr) s.kc[k].1).1
      rw [hv, Option.getD_some] at hrun
      have hsm : s.kc[k].2.l.length ≤ m := (HH.out.2.2.1.chains _ (List.getElem_mem hlt)).1
      have htr := chain_trim (a := a) hb (by have := HH.out.2.2.2.1; omega)
      have hst := sum_take (l := s.kc.map fun p => p.2.cut a) (k := k) (by simpa using hlt)
      rw [List.getElem_map] at hst x0
      have hle := sum_take_le (s.kc.map fun p => p.2.cut a) (k + 1)
      rw [hst] at hle
      have hnb : (n : Int) + (s.kc[k].2.cut a : Int) ≤ 10000000000000000 := by
        have e := I.out.sum
        have : n + s.kc[k].2.cut a ≤ s.cut a := by rw [e]; exact hle
        omega
      have next : ∀ w2, ChainAt w2 (fun i => G' s.kc[k].1 i ∨ wr.heap.size ≤ i) b (s.kc[k].2.trim a) → Fr (G' s.kc[k].1) wr w2 → TrimInv w w1 F sb mb l s a (k + 1) (n + s.kc[k].2.cut a) w2 := by
        intro w2 hc hf
        obtain ⟨G2, hG2, hsub⟩ := hG.turn hv hf hc
        rw [slay_at (k := s.kc[k].1) (v0 := s.kc[k].2) hrk hat, Sto.trimK_succ hlt] at hG2
        have hlt0 := HH.out.2.2.2.2.2.1
        have h1s : w.heap.size ≤ w1.heap.size := HR.out.2.size
        have h2s := I.out.fr.size
        refine ⟨by omega, by rw [hst, ← I.out.sum], hf.blk I.out.blk (fun h => (hGF _ _ h).2.1 rfl), I.out.mp.stab (hf.block _ I.out.mp.lt (fun h => (hGF _ _ h).2.2 rfl)), ⟨G2, hG2, fun k' i hi => ?_⟩, I.out.fr.trans (hf.mono fun i _ hi => ?_)⟩
        · rcases hsub k' i hi with ⟨k'', h⟩ | h
          · exact hGF k'' i h
          · exact ⟨.inr (by omega), by omega, by omega⟩
        · exact (hGF _ _ hi).1
      have HL := Lib.hid (And.intro htr next)
      clear hat hrk hlk hv hb htr hst hle hsm next hG hGF
      simp at c0
      generalize hky : s.kc[k].1 = ky at *
      generalize hln : s.kc[k].2.cut a = ln at *
      clear hky hln
      have hk0 : (0 : Int) ≤ (k : Int) := Int.natCast_nonneg _
      have hk1 : (k : Int) < (s.kc.length : Int) := by omega
      have hn0 : (0 : Int) ≤ (n : Int) := Int.natCast_nonneg _
      have hl0 : (0 : Int) ≤ (ln : Int) := Int.natCast_nonneg _
      go_wp2_with (go_at_call 151; refine HL.out.1.mono ?_; rintro e w2 ⟨rfl, hc2, hf2⟩; have H2 := Lib.hid (And.intro hc2 hf2); clear hc2 hf2)
      go_roundw
      case rel => exact ⟨k + 1, n + ln, by go_num, by go_num, HL.out.2 w2 H2.out.1 H2.out.2⟩
      case measure => simp [intOf]; omega
    · obtain rfl : k = s.kc.length := by have := I.out.le; omega
      have e : n = s.cut a := by
        have e := I.out.sum
        have h2 : (s.kc.map fun p => p.2.cut a).take s.kc.length = s.kc.map fun p => p.2.cut a := List.take_of_length_le (by simp)
        rw [h2] at e
        exact e
      have E := Lib.hid e
      clear e
      go_wp2
      go_ret
      obtain ⟨h1, h2, h4, h5, h6, h7⟩ := HH.out.2.1
      obtain ⟨G', hG, hGF⟩ := I.out.held
      rw [Sto.trimK_all] at hG
      have h1s : w.heap.size ≤ w1.heap.size := HR.out.2.size
      refine ⟨by rw [← E.out]; rfl, ⟨.inl h1, mb, l, G', .inl h2, HH.out.2.2.2.2.2.2, I.out.blk, I.out.mp, hG, fun k i hi => ⟨?_, (hGF k i hi).2⟩⟩, (HR.out.2.mono fun _ _ f => f.elim).trans (I.out.fr.mono fun i _ hi => .inl hi.1)⟩
      rcases (hGF k i hi).1 with h | h
      · exact .inl h.1
      · exact .inr (by omega)
theorem store_trim_nil (a : Int) (w : World) : Calls Tryz.prog 80 #[.pointer none, .int .i64 a] w fun e w' => e = .returned (.int .i64 0) ∧ w' = w := by
  go_enter Tryz.func80, Tryz.ntmps80
  go_wp2_with (go_at_call 150; refine (store_keys_nil _).mono ?_; rintro e w1 ⟨rfl, rfl⟩)
  refine wp_loop_rounds 1 ?_; rw [rounds_succ]
  go_wp2
  go_ret
  exact ⟨rfl, rfl⟩
theorem store_scan_nil (a most : Int) (lo hi : ByteArray) (w : World) : Calls Tryz.prog 120 #[.pointer none, .int .i64 a, .string lo, .string hi, .int .i64 most] w fun e w' => e = .returned (.slice none 0 0) ∧ w' = w := by
  go_enter Tryz.func120, Tryz.ntmps120
  go_wp2_with (go_at_call 150; refine (store_keys_nil _).mono ?_; rintro e w1 ⟨rfl, rfl⟩)
  refine wp_loop_rounds 1 ?_; rw [rounds_succ]
  go_wp2
  go_ret
  exact ⟨rfl, rfl⟩
end Go.Proofs.YtlmhphejgahfbaaGreatDoor
