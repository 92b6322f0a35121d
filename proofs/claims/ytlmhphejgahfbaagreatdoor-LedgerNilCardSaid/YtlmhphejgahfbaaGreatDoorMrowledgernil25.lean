/- Texts of this claim, one behind the other: New, LedAt. -/
import Derived.Test.YtlmhphejgahfbaaGreatDoorMrowledgernil14
import Derived.Test.YtlmhphejgahfbaaGreatDoorMrowledgernil11
import Derived.Test.YtlmhphejgahfbaaGreatDoorMrowledgernil17
import Derived.Test.YtlmhphejgahfbaaGreatDoorMrowledgernil24
import Derived.Test.YtlmhphejgahfbaaGreatDoorMrowledgernil22
/- store.New, ledger.New. -/
set_option linter.unusedVariables false
set_option linter.unusedSimpArgs false
namespace Go.Proofs.YtlmhphejgahfbaaGreatDoor
open Go.RowKit

set_option maxHeartbeats 400000 in
set_option maxRecDepth 100000 in
theorem store_new0 {w : World} : Calls Tryz.prog 40 #[] w fun e w' => e = .returned (.pointer (some ⟨w.heap.size + 1, 0, none⟩)) ∧ w' = (w.alloc (.map #[] 0)).alloc (.cells #[.map (some w.heap.size), .int .i64 0] 159) := by
  have hmm := @run_makeMap Tryz.prog
  go_enter Tryz.func40, Tryz.ntmps40
  go_wp2_with fail
  go_ret
  exact ⟨rfl, rfl⟩

theorem six_at (w : World) (o0 o1 o2 o3 o4 o5 : Obj) : let W := ((((((w.alloc o0).alloc o1).alloc o2).alloc o3).alloc o4).alloc o5).drew
    W.heap[w.heap.size + 1 + 1 + 1 + 1 + 1]? = some o5 ∧ W.heap[w.heap.size + 1 + 1 + 1 + 1]? = some o4 ∧ W.heap[w.heap.size + 1 + 1 + 1]? = some o3 ∧ W.heap[w.heap.size + 1 + 1]? = some o2 ∧ W.heap[w.heap.size + 1]? = some o1 := by
  refine ⟨?_, ?_, ?_, ?_, ?_⟩ <;> simp [World.alloc, World.drew, -World.alloc_eq, -World.drew_eq, Array.getElem?_push, Array.getElem_push]
/-- A new ledger over tables at A. -/
def NewAt (w : World) (B lb : Nat) (A : Option Addr) (n c : Nat) : Prop := ∃ sb vb mb gb, (B ≤ lb ∧ B ≤ sb ∧ B ≤ vb ∧ B ≤ mb ∧ B ≤ gb) ∧ w.heap[lb]? = some (.cells #[.slice A n c, .pointer (some ⟨sb, 0, none⟩), .map (some mb), .int .i64 0, .slice (some ⟨gb, 0, none⟩) 1 1] 87) ∧ w.heap[sb]? = some (.cells #[.map (some vb), .int .i64 0] 159) ∧ w.heap[vb]? = some (.map #[] 0) ∧ w.heap[mb]? = some (.map #[] 0) ∧ w.heap[gb]? = some (.cells #[.string firstD, .string dE, .string (sha []), .pointer none] 81)
set_option maxHeartbeats 1000000 in
set_option maxRecDepth 100000 in
theorem ledger_new {w : World} {F : Nat → Prop} {A : Option Addr} {c : Nat} {l : List Tab} (h : Rd tTab w F A l) (g : TabsOk l) (hk : KAt w) :
    Calls Tryz.prog 8 #[.slice A l.length c] w fun e w' => ∃ lb, e = .returned (.tuple #[.pointer (some ⟨lb, 0, none⟩), .int .i64 0]) ∧ NewAt w' w.heap.size lb A l.length c ∧ Fr No w w' := by
  have hr := tright_ok (c := c) h g
  have hmm := @run_makeMap Tryz.prog
  have H := Lib.hid (And.intro hr (And.intro (fun (w1 : World) (f : Fr No w w1) => first_ok (hk.fr0 f)) (And.intro (fun (w1 : World) (f : Fr No w w1) => mark_empty (hk.fr0 f)) (fun (w1 : World) (f : Fr No w w1) => sum_ok (G := No) (A := none) (c := 0) (p := []) Rd.nil (hk.fr0 f) (by simp)))))
  have HS := Lib.hid fun (w : World) => store_new0 (w := w)
  clear hr g hk h
  go_enter Tryz.func8, Tryz.ntmps8
  go_wp2_with fail
  refine H.out.1.mono ?_
  rintro e w1 ⟨rfl, hf1⟩
  have H1 := Lib.hid hf1
  clear hf1
  go_wp2_with fail
  refine (H.out.2.1 _ H1.out).mono ?_
  rintro e w2 ⟨rfl, hf2⟩
  have H2 := Lib.hid (H1.out.trans (hf2.mono fun _ _ f => f.elim))
  clear hf2
  go_wp2_with fail
  refine (H.out.2.2.1 _ H2.out).mono ?_
  rintro e w3 ⟨rfl, hf3⟩
  have H3 := Lib.hid (H2.out.trans (hf3.mono fun _ _ f => f.elim))
  clear hf3
  go_wp2_with fail
  refine (H.out.2.2.2 _ H3.out).mono ?_
  rintro e w4 ⟨rfl, hf4⟩
  have H4 := Lib.hid (H3.out.trans (hf4.mono fun _ _ f => f.elim))
  clear hf4
  go_wp2_with fail
  go_region_law
    (go_simp; go_at_call 40; refine (HS.out _).mono ?_; rintro e5 w5 ⟨rfl, rfl⟩)
  all_goals
    go_wp2_with fail
    go_ret2
    refine ⟨_, rfl, ?_, H4.out.trans (Fr.mono (F := No) (by repeat (first | exact Fr.refl No _ | apply Fr.drew | apply Fr.drewN | apply Fr.alloc)) (fun _ _ f => f.elim))⟩
    · unfold NewAt
      have hsz4 := H4.out.size
      obtain ⟨s5, s4, s3, s2, s1⟩ := six_at w4 _ _ _ _ _ _
      refine ⟨_, _, _, _, ?_, s5, (by first | exact s4 | exact s3 | exact s2 | exact s1), (by first | exact s4 | exact s3 | exact s2 | exact s1), (by first | exact s4 | exact s3 | exact s2 | exact s1), (by first | exact s4 | exact s3 | exact s2 | exact s1)⟩
      refine ⟨by omega, by omega, by omega, by omega, by omega⟩
end Go.Proofs.YtlmhphejgahfbaaGreatDoor
/- Layer 15 (ledger): how a ledger lies in memory: each block has a colour. -/
set_option linter.unusedVariables false
set_option linter.unusedSimpArgs false
namespace Go.Proofs.YtlmhphejgahfbaaGreatDoor
open Go.RowKit

/-- Colours: 0 others', 1 the ledger's block, 2 its map's, 3 the store, 4 the states' array, 5 the trees, 6 the tables, 9 what is left, from 10 on the transactions. -/
def txCol (id : Int) : Nat := 10 + id.toNat
/-- What the ledger's methods may write. -/
def MutC (n : Nat) : Prop := (1 ≤ n ∧ n ≤ 4) ∨ 10 ≤ n
/-- All that is the ledger's. -/
def LedC (n : Nat) : Prop := (1 ≤ n ∧ n ≤ 6) ∨ 10 ≤ n
theorem MutC.led {n : Nat} (h : MutC n) : LedC n := by unfold MutC at h; unfold LedC; omega
theorem txCol_inj {a b : Int} (ha : 0 ≤ a) (hb : 0 ≤ b) (h : txCol a = txCol b) : a = b := by unfold txCol at h; omega
theorem txCol_ge (a : Int) : 10 ≤ txCol a := by unfold txCol; omega
/-- New blocks in a colour. -/
def ext (col : Nat → Nat) (n k : Nat) : Nat → Nat := fun i => if i < n then col i else k
theorem ext_old (col : Nat → Nat) {n k i : Nat} (h : i < n) : ext col n k i = col i := if_pos h
theorem ext_new (col : Nat → Nat) {n k i : Nat} (h : n ≤ i) : ext col n k i = k := if_neg (by omega)

theorem NodeAt.mono {F G : Nat → Prop} {w : World} {v : Value} {t : Tr} (h : NodeAt F w v t) (k : ∀ i, F i → i < w.heap.size → G i) : NodeAt G w v t := by
  induction t generalizing v with
  | nil => exact h
  | leaf key r =>
    obtain ⟨b, A, c, e, hb, hh, hr⟩ := h
    exact ⟨b, A, c, e, k b hb (blk_lt hh), hh, hr.mono k⟩
  | node l r ihl ihr =>
    obtain ⟨b, vl, vr, e, hb, hh, h1, h2⟩ := h
    exact ⟨b, vl, vr, e, k b hb (blk_lt hh), hh, ihl h1, ihr h2⟩
theorem NodeAt.cellv {F : Nat → Prop} {w : World} {v : Value} {t : Tr} (h : NodeAt F w v t) : v.oneCell' = true := by
  cases t with
  | nil => obtain rfl : v = _ := h; rfl
  | leaf key r => obtain ⟨b, A, c, rfl, _⟩ := h; rfl
  | node l r => obtain ⟨b, vl, vr, rfl, _⟩ := h; rfl
/-- A state in cells; its tree is of colour 5. -/
def tStt (col : Nat → Nat) : Ty Stt where
  sz := 4
  K := fun w F x cs => ∃ v, cs = [.string x.dig, .string x.last, .string x.sum, v] ∧ NodeAt (fun i => col i = 5 ∧ F i) w v x.t
  len := by rintro _ _ _ _ ⟨v, rfl, _⟩; rfl
  one := by
    rintro _ _ x _ ⟨v, rfl, hv⟩ u hu
    simp only [List.mem_cons, List.not_mem_nil, or_false] at hu
    rcases hu with rfl | rfl | rfl | rfl
    · rfl
    · rfl
    · rfl
    · exact hv.cellv
  stab := by rintro _ _ _ _ _ ⟨v, rfl, h⟩ k; exact ⟨v, rfl, h.stab fun i hi hl => k i hi.2 hl⟩
  mono := by rintro _ _ _ _ _ ⟨v, rfl, h⟩ k; exact ⟨v, rfl, h.mono fun i hi hl => ⟨hi.1, k i hi.2 hl⟩⟩
theorem stt_at {w : World} {col : Nat → Nat} {F : Nat → Prop} {A : Option Addr} {l : List Stt} (h : Rd (tStt col) w F A l) {i : Nat} (hi : i < l.length) :
    ∃ ad v, A = some ad ∧ w.cell? (ad.add (i * 4)) = some (.string l[i].dig) ∧ w.cell? ⟨(ad.add (i * 4)).block, (ad.add (i * 4)).off + 1, none⟩ = some (.string l[i].last) ∧ w.cell? ⟨(ad.add (i * 4)).block, (ad.add (i * 4)).off + 2, none⟩ = some (.string l[i].sum) ∧ w.cell? ⟨(ad.add (i * 4)).block, (ad.add (i * 4)).off + 3, none⟩ = some v ∧ NodeAt (fun i => col i = 5 ∧ F i) w v l[i].t := by
  obtain ⟨ad, cs, e, hk, h0, h1⟩ := h.get' hi (show 0 < 4 by decide)
  obtain ⟨v, rfl, hv⟩ := hk
  exact ⟨ad, v, e, h0 _ rfl, h1 1 _ (by decide) rfl, h1 2 _ (by decide) rfl, h1 3 _ (by decide) rfl, hv⟩

theorem row_turn {α : Type} {t t' : Ty α} {w w' : World} {F G : Nat → Prop} {xs : List α} {cs : List Value} (h : Row t w F xs cs) (k : ∀ x c, t.K w F x c → t'.K w' G x c) : Row t' w' G xs cs := by
  induction xs generalizing cs with
  | nil => exact h
  | cons x xs ih => obtain ⟨c, d, rfl, h1, h2⟩ := h; exact ⟨c, d, rfl, k _ _ h1, ih h2⟩
/-- A map's pointers lead to the open transactions. -/
structure TxsAt (w : World) (col : Nat → Nat) (l : List (Int × Value)) (L : Led) : Prop where
  none_ : ∀ id, L.find id = none → lookI id l = none
  some_ : ∀ id x, L.find id = some x → ∃ xb, lookI id l = some (.pointer (some ⟨xb, 0, none⟩)) ∧ TxAt w (fun i => col i = txCol id) xb x.base x.ws
/-- A ledger's parts. -/
structure LedP (w : World) (col : Nat → Nat) (lb : Nat) (L : Led) (A : Option Addr) (c sb mb : Nat) (vst : Value) (l : List (Int × Value)) : Prop where
  blk : LedB w lb (.slice A L.tabs.length c) sb mb L.next vst
  c1 : col lb = 1
  c2 : col mb = 2
  cap : L.tabs.length ≤ c
  tabs : Rd tTab w (fun i => col i = 6) A L.tabs
  sto : StoreAt w (fun i => col i = 3) sb L.s
  map : MapII w mb l
  txs : TxsAt w col l L
  sts : Ow (tStt col) 81 w (fun i => col i = 4 ∨ col i = 5) vst L.sts
  own : ∀ k, vst.ownBlock = some k → col k = 4
  kat : KAt w
  kc : col 0 = 0
def LedAt (w : World) (col : Nat → Nat) (lb : Nat) (L : Led) : Prop := ∃ A c sb mb vst l, LedP w col lb L A c sb mb vst l
section
variable {w w' : World} {col col' : Nat → Nat} {lb : Nat} {L : Led} {l : List (Int × Value)} {A : Option Addr} {c sb mb : Nat} {vst : Value}
theorem TxsAt.fr {S : Nat → Prop} (h : TxsAt w col l L) (f : Fr S w w') (hd : ∀ i, 10 ≤ col i → ¬ S i) : TxsAt w' col l L :=
  ⟨h.none_, fun id x hx => by
    obtain ⟨xb, h1, h2⟩ := h.some_ id x hx
    exact ⟨xb, h1, h2.fr f fun i hi => hd i (by have := txCol_ge id; omega)⟩⟩
theorem TxsAt.recol (h : TxsAt w col l L) (k : ∀ i, i < w.heap.size → col' i = col i) : TxsAt w col' l L :=
  ⟨h.none_, fun id x hx => by
    obtain ⟨xb, h1, h2⟩ := h.some_ id x hx
    exact ⟨xb, h1, h2.mono fun i hi hl => by rw [k i hl]; exact hi⟩⟩
theorem LedP.fr {S : Nat → Prop} (h : LedP w col lb L A c sb mb vst l) (f : Fr S w w') (hd : ∀ i, LedC (col i) → ¬ S i) (hk : ∀ i, col i = 0 → ¬ S i) : LedP w' col lb L A c sb mb vst l where
  blk := f.blk h.blk (hd _ (by rw [h.c1]; unfold LedC; omega))
  c1 := h.c1
  c2 := h.c2
  cap := h.cap
  tabs := h.tabs.fr f fun i hi => hd i (by unfold LedC; omega)
  sto := h.sto.fr f fun i hi => hd i (by unfold LedC; omega)
  map := h.map.stab (f.block _ h.map.lt (hd _ (by rw [h.c2]; unfold LedC; omega)))
  txs := h.txs.fr f fun i hi => hd i (by unfold LedC; omega)
  sts := h.sts.fr f fun i hi => hd i (by unfold LedC; omega)
  own := h.own
  kat := h.kat.fr f (hk _ h.kc)
  kc := h.kc
theorem LedP.fr0 (h : LedP w col lb L A c sb mb vst l) (f : Fr No w w') : LedP w' col lb L A c sb mb vst l := h.fr f (fun _ _ f => f) (fun _ _ f => f)
theorem tStt_recol {F G : Nat → Prop} {x : Stt} {cs : List Value} (h : (tStt col).K w F x cs) (k : ∀ i, i < w.heap.size → col' i = col i) (g : ∀ i, i < w.heap.size → F i → G i) : (tStt col').K w G x cs := by
  obtain ⟨v, e, hn⟩ := h
  exact ⟨v, e, hn.mono fun i hi hl => ⟨by rw [k i hl]; exact hi.1, g i hl hi.2⟩⟩
theorem kat_lt (h : KAt w) : 0 < w.heap.size := World.block_lt_of_cell? w _ (h 0 (by decide))
theorem LedP.recol (h : LedP w col lb L A c sb mb vst l) (k : ∀ i, i < w.heap.size → col' i = col i) : LedP w col' lb L A c sb mb vst l where
  blk := h.blk
  c1 := by rw [k _ (blk_lt h.blk)]; exact h.c1
  c2 := by rw [k _ h.map.lt]; exact h.c2
  cap := h.cap
  tabs := h.tabs.mono fun i hi hl => by rw [k i hl]; exact hi
  sto := h.sto.mono fun i hi hl => by rw [k i hl]; exact hi
  map := h.map
  txs := h.txs.recol k
  sts := by
    obtain ⟨cs, g1, g2, g3⟩ := h.sts
    exact ⟨cs, g1, row_turn g2 fun x c hx => tStt_recol hx k fun i hl hi => ⟨by show col' i = 4 ∨ col' i = 5; rw [k i hl]; exact hi.1, hi.2⟩, fun i hi => by show col' i = 4 ∨ col' i = 5; rw [k i (g1.lt i hi).2]; exact g3 i hi⟩
  own := fun i hi => by
    obtain ⟨cs, g1, g2, g3⟩ := h.sts
    rw [k i (g1.lt i hi).2]; exact h.own i hi
  kat := h.kat
  kc := by rw [k _ (kat_lt h.kat)]; exact h.kc
theorem LedAt.fr {S : Nat → Prop} (h : LedAt w col lb L) (f : Fr S w w') (hd : ∀ i, LedC (col i) → ¬ S i) (hk : ∀ i, col i = 0 → ¬ S i) : LedAt w' col lb L := by
  obtain ⟨A, c, sb, mb, vst, l, h⟩ := h
  exact ⟨A, c, sb, mb, vst, l, h.fr f hd hk⟩
theorem LedAt.fr0 (h : LedAt w col lb L) (f : Fr No w w') : LedAt w' col lb L := h.fr f (fun _ _ f => f) (fun _ _ f => f)
theorem LedAt.recol (h : LedAt w col lb L) (k : ∀ i, i < w.heap.size → col' i = col i) : LedAt w col' lb L := by
  obtain ⟨A, c, sb, mb, vst, l, h⟩ := h
  exact ⟨A, c, sb, mb, vst, l, h.recol k⟩
/-- One transaction has turned. -/
theorem LedP.setTx {x : LTx} {id : Int} {xb : Nat} {ws : List Wr} (h : LedP w col lb L A c sb mb vst l) (hp : ∀ y ∈ L.txs, 0 ≤ y.id) (hx : L.find id = some x) (hb : lookI id l = some (.pointer (some ⟨xb, 0, none⟩)))
    (hT : TxAt w' (fun i => col i = txCol id ∨ w.heap.size ≤ i) xb x.base ws) (f : Fr (fun i => col i = txCol id) w w') : LedP w' (ext col w.heap.size (txCol id)) lb (L.setTx id ws) A c sb mb vst l := by
  have hge := txCol_ge id
  have hlt : ∀ i, i < w.heap.size → ext col w.heap.size (txCol id) i = col i := fun i hi => ext_old col hi
  have hcol := (h.recol (col' := ext col w.heap.size (txCol id)) hlt)
  have hS : ∀ i, i < w.heap.size → ext col w.heap.size (txCol id) i < 10 → ¬ col i = txCol id := fun i hi hc he => by rw [hlt i hi, he] at hc; omega
  refine { blk := f.blk hcol.blk (fun e => by have := h.c1; omega), c1 := hcol.c1, c2 := hcol.c2, cap := hcol.cap, tabs := hcol.tabs.stab fun i hi hl => f.block i hl (hS i hl (by omega)), sto := hcol.sto.stab f.size fun i hi hl => f.block i hl (hS i hl (by omega)), map := h.map.stab (f.block _ h.map.lt (fun e => by have := h.c2; omega)), txs := ⟨fun id' h' => ?_, fun id' y hy => ?_⟩, sts := hcol.sts.stab fun i hi hl => f.block i hl (hS i hl (by omega)), own := hcol.own, kat := h.kat.fr f (fun e => by have := h.kc; omega), kc := hcol.kc }
  · rw [find_setTx] at h'
    split at h'
    · rename_i e; rw [hx] at h'; cases h'
    · exact h.txs.none_ id' h'
  · rw [find_setTx] at hy
    split at hy
    · rename_i e
      subst e
      rw [hx] at hy
      simp only [Option.map_some, Option.some.injEq] at hy
      subst hy
      refine ⟨xb, hb, hT.mono fun i hi hl => ?_⟩
      rcases Nat.lt_or_ge i w.heap.size with hlt' | hge'
      · show ext _ _ _ i = _
        rw [ext_old col hlt']
        rcases hi with hi | hi
        · exact hi
        · omega
      · exact ext_new col hge'
    · rename_i e
      obtain ⟨xb', h1, h2⟩ := hcol.txs.some_ id' y hy
      refine ⟨xb', h1, h2.stab fun i hi hl => f.block i hl fun he => e ?_⟩
      rw [hlt i hl, he] at hi
      obtain ⟨q1, q2⟩ := find_id hy
      obtain ⟨q3, q4⟩ := find_id hx
      exact (txCol_inj (by rw [← q3]; exact hp _ q4) (by rw [← q1]; exact hp _ q2) hi).symm
end
end Go.Proofs.YtlmhphejgahfbaaGreatDoor
