/- Texts of this claim, one behind the other: SpecL. -/
import Derived.Test.YtlmhphejgahfbaaGreatDoorMrowledgernil5
import Derived.Test.YtlmhphejgahfbaaGreatDoorMrowledgernil11
import Derived.Test.YtlmhphejgahfbaaGreatDoorMrowledgernil14
import Derived.Test.YtlmhphejgahfbaaGreatDoorMrowledgernil16
import Derived.Test.YtlmhphejgahfbaaGreatDoorMrowledgernil9
/- Layer 15 (ledger): a ledger as plain data, and what is done with it. -/
set_option linter.unusedVariables false
set_option linter.unusedSimpArgs false
namespace Go.Proofs.YtlmhphejgahfbaaGreatDoor

/-- A write in a record. -/
def wrB (x : Wr) : Bs := beN x.key.size 2 ++ keyB x.key ++ (if x.gone then [1] else 0 :: (beN x.row.length 2 ++ x.row))
/-- A record. -/
def recB (n : Int) (ws : List Wr) : Bs := beN n.toNat 8 ++ beN ws.length 2 ++ ws.flatMap wrB

/-- A state: its digest, the one ahead, the record's sum, and the tree behind it. -/
structure Stt where
  dig : ByteArray
  last : ByteArray
  sum : ByteArray
  t : Tr
/-- An open transaction. -/
structure LTx where
  id : Int
  base : Int
  ws : List Wr
structure Led where
  tabs : List Tab
  s : Sto
  txs : List LTx
  next : Int
  sts : List Stt
namespace Led
def find (L : Led) (id : Int) : Option LTx := L.txs.find? fun x => decide (x.id = id)
def new (tabs : List Tab) : Led := ⟨tabs, Sto.empty, [], 0, [⟨firstD, dE, sha [], .nil⟩]⟩
def begin_ (L : Led) : Led := { L with next := L.next + 1, txs := L.txs ++ [⟨L.next + 1, L.s.now, []⟩] }
def without (L : Led) (id : Int) : Led := { L with txs := L.txs.filter fun x => !decide (x.id = id) }
def setTx (L : Led) (id : Int) (ws : List Wr) : Led := { L with txs := L.txs.map fun x => if x.id = id then { x with ws := ws } else x }
/-- Was a key that it wrote written since? -/
def late (L : Led) (x : LTx) : Bool := x.ws.any fun w => decide (x.base < L.s.last w.key)
/-- What has come of one more. -/
def formStep (L : Led) (seen : List Int) (st : List Int × List Wr) (id : Int) : List Int × List Wr :=
  match L.find id with
  | none => (st.1 ++ [6], st.2)
  | some x =>
    if id ∈ seen then (st.1 ++ [6], st.2)
    else if (L.late x || x.ws.any fun w => st.2.any fun y => decide (y.key = w.key)) = true then (st.1 ++ [7], st.2)
    else (st.1 ++ [0], st.2 ++ x.ws)
/-- What has come of so many. -/
def formN (L : Led) (ids : List Int) : Nat → List Int × List Wr
  | 0 => ([], [])
  | n + 1 => L.formStep (ids.take n) (formN L ids n) (ids.getD n 0)
/-- The least number that somebody sees. -/
def below (L : Led) : Int := L.txs.foldl (fun a x => min a x.base) L.s.now
def growT (t : Tr) (ws : List Wr) : Tr := ws.foldl (fun t w => if w.gone then t.del hbit w.key 0 else t.put hbit sameK (w.key, w.row) 0) t
def last (L : Led) : Stt := L.sts.getLastD ⟨firstD, dE, sha [], .nil⟩
/-- One more state. -/
def grown (L : Led) (ws : List Wr) : Stt := ⟨linkD L.last.dig (digT (growT L.last.t ws)) (recB (L.s.now + 1) ws), L.last.dig, sha (recB (L.s.now + 1) ws), growT L.last.t ws⟩
def keep6 (l : List Stt) : List Stt := l.drop (l.length - 6)
def dropped (L : Led) (ids : List Int) : Led := ids.foldl without L
def applied (L : Led) (ws : List Wr) : Led := { L with s := ⟨ws.foldl (Sto.put1 (L.s.now + 1)) L.s.kc, L.s.now + 1⟩, sts := keep6 (L.sts ++ [L.grown ws]) }
def publish (L : Led) (ws : List Wr) (ids : List Int) : Led :=
  if ws = [] then L.dropped ids else { (L.applied ws).dropped ids with s := ((L.applied ws).dropped ids).s.trim ((L.applied ws).dropped ids).below }
end Led

/-! ### Transactions by their numbers -/
theorem find_begin {L : Led} (hn : ∀ x ∈ L.txs, x.id ≤ L.next) (id : Int) : L.begin_.find id = if id = L.next + 1 then some ⟨L.next + 1, L.s.now, []⟩ else L.find id := by
  unfold Led.find Led.begin_
  simp only [List.find?_append, List.find?_cons, List.find?_nil]
  by_cases h : id = L.next + 1
  · subst h
    have h0 : (L.txs.find? fun x => decide (x.id = L.next + 1)) = none := by
      rw [List.find?_eq_none]
      intro x hx
      have := hn x hx
      simp; omega
    rw [h0, if_pos rfl]
    simp
  · rw [if_neg h, decide_eq_false (fun e => h e.symm)]
    simp
theorem find_without {L : Led} (id id' : Int) : (L.without id).find id' = if id' = id then none else L.find id' := by
  unfold Led.find Led.without
  simp only [List.find?_filter]
  by_cases h : id' = id
  · subst h
    rw [if_pos rfl, List.find?_eq_none]
    intro x _
    simp
  · rw [if_neg h]
    congr 1
    funext x
    by_cases e : x.id = id'
    · have : ¬ x.id = id := fun q => h (e.symm.trans q)
      simp [e, this, h]
    · simp [e]
theorem find_setTx {L : Led} (id : Int) (ws : List Wr) (id' : Int) : (L.setTx id ws).find id' = if id' = id then (L.find id).map (fun x => { x with ws := ws }) else L.find id' := by
  unfold Led.find Led.setTx
  simp only [List.find?_map]
  have e0 : ((fun x : LTx => decide (x.id = id')) ∘ fun x => if x.id = id then { x with ws := ws } else x) = fun x => decide (x.id = id') := by
    funext x
    by_cases h : x.id = id <;> simp [h]
  rw [e0]
  by_cases h : id' = id
  · subst h
    rw [if_pos rfl]
    cases hf : L.txs.find? fun x => decide (x.id = id') with
    | none => rfl
    | some x =>
      have hx : x.id = id' := by simpa using List.find?_some hf
      simp [hx]
  · rw [if_neg h]
    cases hf : L.txs.find? fun x => decide (x.id = id') with
    | none => rfl
    | some x =>
      have hx : x.id = id' := by simpa using List.find?_some hf
      have : ¬ x.id = id := fun q => h (hx.symm.trans q)
      simp [this]
theorem find_id {L : Led} {id : Int} {x : LTx} (h : L.find id = some x) : x.id = id ∧ x ∈ L.txs := ⟨by simpa using List.find?_some h, List.mem_of_find?_eq_some h⟩
/-- A ledger of few things: m of each. -/
structure Led.Ok (L : Led) (m : Nat) : Prop where
  tabs : TabsOk L.tabs
  sto : L.s.Small m
  next0 : 0 ≤ L.next
  next1 : L.next ≤ m
  ids : ∀ x ∈ L.txs, 1 ≤ x.id ∧ x.id ≤ L.next
  once : (L.txs.map LTx.id).Nodup
  base : ∀ x ∈ L.txs, 0 ≤ x.base ∧ x.base ≤ L.s.now
  ws : ∀ x ∈ L.txs, x.ws.length ≤ 20 ∧ ∀ y ∈ x.ws, 1 ≤ y.key.size ∧ y.key.size ≤ 1000 ∧ y.row.length ≤ 4000 ∧ (y.gone = true → y.row = [])
  rise : ∀ x ∈ L.txs, Rising (x.ws.map Wr.key)
  sts : 1 ≤ L.sts.length ∧ L.sts.length ≤ 6
  st : ∀ x ∈ L.sts, x.dig.size = 32 ∧ x.last.size = 32 ∧ x.sum.size = 32 ∧ TrOk x.t 0 ∧ x.t.len ≤ 64 * m
theorem Led.Ok.find {L : Led} {m : Nat} (h : L.Ok m) {id : Int} {x : LTx} (hf : L.find id = some x) : 1 ≤ id ∧ id ≤ L.next := by
  obtain ⟨e, hx⟩ := find_id hf
  have := h.ids x hx
  rw [e] at this
  exact this
end Go.Proofs.YtlmhphejgahfbaaGreatDoor
