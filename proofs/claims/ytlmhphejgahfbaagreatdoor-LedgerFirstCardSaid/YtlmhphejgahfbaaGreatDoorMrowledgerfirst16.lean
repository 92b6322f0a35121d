/- Texts of this claim, one behind the other: LedAt, New2, Begin. -/
import Derived.Test.YtlmhphejgahfbaaGreatDoorMrowledgerfirst12
import Derived.Test.YtlmhphejgahfbaaGreatDoorMrowledgerfirst13
import Derived.Test.YtlmhphejgahfbaaGreatDoorMrowledgerfirst15
/- Layer 15 (ledger): how a ledger lies in memory: each block has a colour. -/
set_option linter.unusedVariables false
set_option linter.unusedSimpArgs false
namespace Go.Proofs.YtlmhphejgahfbaaGreatDoor
open Go.RowKit

/-- Colours: 0 others', 1 the ledger's block, 2 its map's, 3 the store, 4 the states' array, 5 the trees, 6 the tables, 9 what is left, from 10 on the transactions. -/
def txCol (id : Int) : Nat := 10 + id.toNat
/-- What the ledger's methods may write. -/
def MutC (n : Nat) : Prop := (1 ≤ n ∧ n ≤ 4) ∨ 10 ≤ n
/-- All that is the ledger's. -/
def LedC (n : Nat) : Prop := (1 ≤ n ∧ n ≤ 6) ∨ 10 ≤ n
theorem MutC.led {n : Nat} (h : MutC n) : LedC n := by unfold MutC at h; unfold LedC; omega
theorem txCol_inj {a b : Int} (ha : 0 ≤ a) (hb : 0 ≤ b) (h : txCol a = txCol b) : a = b := by unfold txCol at h; omega
theorem txCol_ge (a : Int) : 10 ≤ txCol a := by unfold txCol; omega
/-- New blocks in a colour. -/
def ext (col : Nat → Nat) (n k : Nat) : Nat → Nat := fun i => if i < n then col i else k
theorem ext_old (col : Nat → Nat) {n k i : Nat} (h : i < n) : ext col n k i = col i := if_pos h
theorem ext_new (col : Nat → Nat) {n k i : Nat} (h : n ≤ i) : ext col n k i = k := if_neg (by omega)

theorem NodeAt.mono {F G : Nat → Prop} {w : World} {v : Value} {t : Tr} (h : NodeAt F w v t) (k : ∀ i, F i → i < w.heap.size → G i) : NodeAt G w v t := by
  induction t generalizing v with
  | nil => exact h
  | leaf key r =>
    obtain ⟨b, A, c, e, hb, hh, hr⟩ := h
    exact ⟨b, A, c, e, k b hb (blk_lt hh), hh, hr.mono k⟩
  | node l r ihl ihr =>
    obtain ⟨b, vl, vr, e, hb, hh, h1, h2⟩ := h
    exact ⟨b, vl, vr, e, k b hb (blk_lt hh), hh, ihl h1, ihr h2⟩
theorem NodeAt.cellv {F : Nat → Prop} {w : World} {v : Value} {t : Tr} (h : NodeAt F w v t) : v.oneCell' = true := by
  cases t with
  | nil => obtain rfl : v = _ := h; rfl
  | leaf key r => obtain ⟨b, A, c, rfl, _⟩ := h; rfl
  | node l r => obtain ⟨b, vl, vr, rfl, _⟩ := h; rfl
/-- A state in cells; its tree is of colour 5. -/
def tStt (col : Nat → Nat) : Ty Stt where
  sz := 4
  K := fun w F x cs => ∃ v, cs = [.string x.dig, .string x.last, .string x.sum, v] ∧ NodeAt (fun i => col i = 5 ∧ F i) w v x.t
  len := by rintro _ _ _ _ ⟨v, rfl, _⟩; rfl
  one := by
    rintro _ _ x _ ⟨v, rfl, hv⟩ u hu
    simp only [List.mem_cons, List.not_mem_nil, or_false] at hu
    rcases hu with rfl | rfl | rfl | rfl
    · rfl
    · rfl
    · rfl
    · exact hv.cellv
  stab := by rintro _ _ _ _ _ ⟨v, rfl, h⟩ k; exact ⟨v, rfl, h.stab fun i hi hl => k i hi.2 hl⟩
  mono := by rintro _ _ _ _ _ ⟨v, rfl, h⟩ k; exact ⟨v, rfl, h.mono fun i hi hl => ⟨hi.1, k i hi.2 hl⟩⟩
theorem stt_at {w : World} {col : Nat → Nat} {F : Nat → Prop} {A : Option Addr} {l : List Stt} (h : Rd (tStt col) w F A l) {i : Nat} (hi : i < l.length) :
    ∃ ad v, A = some ad ∧ w.cell? (ad.add (i * 4)) = some (.string l[i].dig) ∧ w.cell? ⟨(ad.add (i * 4)).block, (ad.add (i * 4)).off + 1, none⟩ = some (.string l[i].last) ∧ w.cell? ⟨(ad.add (i * 4)).block, (ad.add (i * 4)).off + 2, none⟩ = some (.string l[i].sum) ∧ w.cell? ⟨(ad.add (i * 4)).block, (ad.add (i * 4)).off + 3, none⟩ = some v ∧ NodeAt (fun i => col i = 5 ∧ F i) w v l[i].t := by
  obtain ⟨ad, cs, e, hk, h0, h1⟩ := h.get' hi (show 0 < 4 by decide)
  obtain ⟨v, rfl, hv⟩ := hk
  exact ⟨ad, v, e, h0 _ rfl, h1 1 _ (by decide) rfl, h1 2 _ (by decide) rfl, h1 3 _ (by decide) rfl, hv⟩

theorem row_turn {α : Type} {t t' : Ty α} {w w' : World} {F G : Nat → Prop} {xs : List α} {cs : List Value} (h : Row t w F xs cs) (k : ∀ x c, t.K w F x c → t'.K w' G x c) : Row t' w' G xs cs := by
  induction xs generalizing cs with
  | nil => exact h
  | cons x xs ih => obtain ⟨c, d, rfl, h1, h2⟩ := h; exact ⟨c, d, rfl, k _ _ h1, ih h2⟩
/-- A map's pointers lead to the open transactions. -/
structure TxsAt (w : World) (col : Nat → Nat) (l : List (Int × Value)) (L : Led) : Prop where
  none_ : ∀ id, L.find id = none → lookI id l = none
  some_ : ∀ id x, L.find id = some x → ∃ xb, lookI id l = some (.pointer (some ⟨xb, 0, none⟩)) ∧ TxAt w (fun i => col i = txCol id) xb x.base x.ws
/-- A ledger's parts. -/
structure LedP (w : World) (col : Nat → Nat) (lb : Nat) (L : Led) (A : Option Addr) (c sb mb : Nat) (vst : Value) (l : List (Int × Value)) : Prop where
  blk : LedB w lb (.slice A L.tabs.length c) sb mb L.next vst
  c1 : col lb = 1
  c2 : col mb = 2
  cap : L.tabs.length ≤ c
  tabs : Rd tTab w (fun i => col i = 6) A L.tabs
  sto : StoreAt w (fun i => col i = 3) sb L.s
  map : MapII w mb l
  txs : TxsAt w col l L
  sts : Ow (tStt col) 81 w (fun i => col i = 4 ∨ col i = 5) vst L.sts
  own : ∀ k, vst.ownBlock = some k → col k = 4
  kat : KAt w
  kc : col 0 = 0
def LedAt (w : World) (col : Nat → Nat) (lb : Nat) (L : Led) : Prop := ∃ A c sb mb vst l, LedP w col lb L A c sb mb vst l
section
variable {w w' : World} {col col' : Nat → Nat} {lb : Nat} {L : Led} {l : List (Int × Value)} {A : Option Addr} {c sb mb : Nat} {vst : Value}
theorem TxsAt.fr {S : Nat → Prop} (h : TxsAt w col l L) (f : Fr S w w') (hd : ∀ i, 10 ≤ col i → ¬ S i) : TxsAt w' col l L :=
  ⟨h.none_, fun id x hx => by
    obtain ⟨xb, h1, h2⟩ := h.some_ id x hx
    exact ⟨xb, h1, h2.fr f fun i hi => hd i (by have := txCol_ge id; omega)⟩⟩
theorem TxsAt.recol (h : TxsAt w col l L) (k : ∀ i, i < w.heap.size → col' i = col i) : TxsAt w col' l L :=
  ⟨h.none_, fun id x hx => by
    obtain ⟨xb, h1, h2⟩ := h.some_ id x hx
    exact ⟨xb, h1, h2.mono fun i hi hl => by rw [k i hl]; exact hi⟩⟩
theorem LedP.fr {S : Nat → Prop} (h : LedP w col lb L A c sb mb vst l) (f : Fr S w w') (hd : ∀ i, LedC (col i) → ¬ S i) (hk : ∀ i, col i = 0 → ¬ S i) : LedP w' col lb L A c sb mb vst l where
  blk := f.blk h.blk (hd _ (by rw [h.c1]; unfold LedC; omega))
  c1 := h.c1
  c2 := h.c2
  cap := h.cap
  tabs := h.tabs.fr f fun i hi => hd i (by unfold LedC; omega)
  sto := h.sto.fr f fun i hi => hd i (by unfold LedC; omega)
  map := h.map.stab (f.block _ h.map.lt (hd _ (by rw [h.c2]; unfold LedC; omega)))
  txs := h.txs.fr f fun i hi => hd i (by unfold LedC; omega)
  sts := h.sts.fr f fun i hi => hd i (by unfold LedC; omega)
  own := h.own
  kat := h.kat.fr f (hk _ h.kc)
  kc := h.kc
theorem LedP.fr0 (h : LedP w col lb L A c sb mb vst l) (f : Fr No w w') : LedP w' col lb L A c sb mb vst l := h.fr f (fun _ _ f => f) (fun _ _ f => f)
theorem tStt_recol {F G : Nat → Prop} {x : Stt} {cs : List Value} (h : (tStt col).K w F x cs) (k : ∀ i, i < w.heap.size → col' i = col i) (g : ∀ i, i < w.heap.size → F i → G i) : (tStt col').K w G x cs := by
  obtain ⟨v, e, hn⟩ := h
  exact ⟨v, e, hn.mono fun i hi hl => ⟨by rw [k i hl]; exact hi.1, g i hl hi.2⟩⟩
theorem kat_lt (h : KAt w) : 0 < w.heap.size := World.block_lt_of_cell? w _ (h 0 (by decide))
theorem LedP.recol (h : LedP w col lb L A c sb mb vst l) (k : ∀ i, i < w.heap.size → col' i = col i) : LedP w col' lb L A c sb mb vst l where
  blk := h.blk
  c1 := by rw [k _ (blk_lt h.blk)]; exact h.c1
  c2 := by rw [k _ h.map.lt]; exact h.c2
  cap := h.cap
  tabs := h.tabs.mono fun i hi hl => by rw [k i hl]; exact hi
  sto := h.sto.mono fun i hi hl => by rw [k i hl]; exact hi
  map := h.map
  txs := h.txs.recol k
  sts := by
    obtain ⟨cs, g1, g2, g3⟩ := h.sts
    exact ⟨cs, g1, row_turn g2 fun x c hx => tStt_recol hx k fun i hl hi => ⟨by show col' i = 4 ∨ col' i = 5; rw [k i hl]; exact hi.1, hi.2⟩, fun i hi => by show col' i = 4 ∨ col' i = 5; rw [k i (g1.lt i hi).2]; exact g3 i hi⟩
  own := fun i hi => by
    obtain ⟨cs, g1, g2, g3⟩ := h.sts
    rw [k i (g1.lt i hi).2]; exact h.own i hi
  kat := h.kat
  kc := by rw [k _ (kat_lt h.kat)]; exact h.kc
theorem LedAt.fr {S : Nat → Prop} (h : LedAt w col lb L) (f : Fr S w w') (hd : ∀ i, LedC (col i) → ¬ S i) (hk : ∀ i, col i = 0 → ¬ S i) : LedAt w' col lb L := by
  obtain ⟨A, c, sb, mb, vst, l, h⟩ := h
  exact ⟨A, c, sb, mb, vst, l, h.fr f hd hk⟩
theorem LedAt.fr0 (h : LedAt w col lb L) (f : Fr No w w') : LedAt w' col lb L := h.fr f (fun _ _ f => f) (fun _ _ f => f)
theorem LedAt.recol (h : LedAt w col lb L) (k : ∀ i, i < w.heap.size → col' i = col i) : LedAt w col' lb L := by
  obtain ⟨A, c, sb, mb, vst, l, h⟩ := h
  exact ⟨A, c, sb, mb, vst, l, h.recol k⟩
/-- One transaction has turned. -/
theorem LedP.setTx {x : LTx} {id : Int} {xb : Nat} {ws : List Wr} (h : LedP w col lb L A c sb mb vst l) (hp : ∀ y ∈ L.txs, 0 ≤ y.id) (hx : L.find id = some x) (hb : lookI id l = some (.pointer (some ⟨xb, 0, none⟩)))
    (hT : TxAt w' (fun i => col i = txCol id ∨ w.heap.size ≤ i) xb x.base ws) (f : Fr (fun i => col i = txCol id) w w') : LedP w' (ext col w.heap.size (txCol id)) lb (L.setTx id ws) A c sb mb vst l := by
  have hge := txCol_ge id
  have hlt : ∀ i, i < w.heap.size → ext col w.heap.size (txCol id) i = col i := fun i hi => ext_old col hi
  have hcol := (h.recol (col' := ext col w.heap.size (txCol id)) hlt)
  have hS : ∀ i, i < w.heap.size → ext col w.heap.size (txCol id) i < 10 → ¬ col i = txCol id := fun i hi hc he => by rw [hlt i hi, he] at hc; omega
  refine { blk := f.blk hcol.blk (fun e => by have := h.c1; omega), c1 := hcol.c1, c2 := hcol.c2, cap := hcol.cap, tabs := hcol.tabs.stab fun i hi hl => f.block i hl (hS i hl (by omega)), sto := hcol.sto.stab f.size fun i hi hl => f.block i hl (hS i hl (by omega)), map := h.map.stab (f.block _ h.map.lt (fun e => by have := h.c2; omega)), txs := ⟨fun id' h' => ?_, fun id' y hy => ?_⟩, sts := hcol.sts.stab fun i hi hl => f.block i hl (hS i hl (by omega)), own := hcol.own, kat := h.kat.fr f (fun e => by have := h.kc; omega), kc := hcol.kc }
  · rw [find_setTx] at h'
    split at h'
    · rename_i e; rw [hx] at h'; cases h'
    · exact h.txs.none_ id' h'
  · rw [find_setTx] at hy
    split at hy
    · rename_i e
      subst e
      rw [hx] at hy
      simp only [Option.map_some, Option.some.injEq] at hy
      subst hy
      refine ⟨xb, hb, hT.mono fun i hi hl => ?_⟩
      rcases Nat.lt_or_ge i w.heap.size with hlt' | hge'
      · show ext _ _ _ i = _
        rw [ext_old col hlt']
        rcases hi with hi | hi
        · exact hi
        · omega
      · exact ext_new col hge'
    · rename_i e
      obtain ⟨xb', h1, h2⟩ := hcol.txs.some_ id' y hy
      refine ⟨xb', h1, h2.stab fun i hi hl => f.block i hl fun he => e ?_⟩
      rw [hlt i hl, he] at hi
      obtain ⟨q1, q2⟩ := find_id hy
      obtain ⟨q3, q4⟩ := find_id hx
      exact (txCol_inj (by rw [← q3]; exact hp _ q4) (by rw [← q1]; exact hp _ q2) hi).symm
end
end Go.Proofs.YtlmhphejgahfbaaGreatDoor
/- ledger.New, once more: its two maps are two. -/
set_option linter.unusedVariables false
set_option linter.unusedSimpArgs false
namespace Go.Proofs.YtlmhphejgahfbaaGreatDoor
open Go.RowKit

/-- A new ledger over tables at A. -/
def NewAt2 (w : World) (B lb : Nat) (A : Option Addr) (n c : Nat) : Prop := ∃ sb vb mb gb, (B ≤ lb ∧ B ≤ sb ∧ B ≤ vb ∧ B ≤ mb ∧ B ≤ gb ∧ vb ≠ mb) ∧ w.heap[lb]? = some (.cells #[.slice A n c, .pointer (some ⟨sb, 0, none⟩), .map (some mb), .int .i64 0, .slice (some ⟨gb, 0, none⟩) 1 1] 87) ∧ w.heap[sb]? = some (.cells #[.map (some vb), .int .i64 0] 159) ∧ w.heap[vb]? = some (.map #[] 0) ∧ w.heap[mb]? = some (.map #[] 0) ∧ w.heap[gb]? = some (.cells #[.string firstD, .string dE, .string (sha []), .pointer none] 81)
set_option maxHeartbeats 1000000 in
set_option maxRecDepth 100000 in
theorem ledger_new2 {w : World} {F : Nat → Prop} {A : Option Addr} {c : Nat} {l : List Tab} (h : Rd tTab w F A l) (g : TabsOk l) (hk : KAt w) :
    Calls Tryz.prog 8 #[.slice A l.length c] w fun e w' => ∃ lb, e = .returned (.tuple #[.pointer (some ⟨lb, 0, none⟩), .int .i64 0]) ∧ NewAt2 w' w.heap.size lb A l.length c ∧ Fr No w w' := by
  have hr := tright_ok (c := c) h g
  have hmm := @run_makeMap Tryz.prog
  have H := Lib.hid (And.intro hr (And.intro (fun (w1 : World) (f : Fr No w w1) => first_ok (hk.fr0 f)) (And.intro (fun (w1 : World) (f : Fr No w w1) => mark_empty (hk.fr0 f)) (fun (w1 : World) (f : Fr No w w1) => sum_ok (G := No) (A := none) (c := 0) (p := []) Rd.nil (hk.fr0 f) (by simp)))))
  have HS := Lib.hid fun (w : World) => store_new0 (w := w)
  clear hr g hk h
  go_enter Tryz.func8, Tryz.ntmps8
  go_wp2_with fail
  refine H.out.1.mono ?_
  rintro e w1 ⟨rfl, hf1⟩
  have H1 := Lib.hid hf1
  clear hf1
  go_wp2_with fail
  refine (H.out.2.1 _ H1.out).mono ?_
  rintro e w2 ⟨rfl, hf2⟩
  have H2 := Lib.hid (H1.out.trans (hf2.mono fun _ _ f => f.elim))
  clear hf2
  go_wp2_with fail
  refine (H.out.2.2.1 _ H2.out).mono ?_
  rintro e w3 ⟨rfl, hf3⟩
  have H3 := Lib.hid (H2.out.trans (hf3.mono fun _ _ f => f.elim))
  clear hf3
  go_wp2_with fail
  refine (H.out.2.2.2 _ H3.out).mono ?_
  rintro e w4 ⟨rfl, hf4⟩
  have H4 := Lib.hid (H3.out.trans (hf4.mono fun _ _ f => f.elim))
  clear hf4
  go_wp2_with fail
  go_region_law
    (go_simp; go_at_call 40; refine (HS.out _).mono ?_; rintro e5 w5 ⟨rfl, rfl⟩)
  all_goals
    go_wp2_with fail
    go_ret2
    refine ⟨_, rfl, ?_, H4.out.trans (Fr.mono (F := No) (by repeat (first | exact Fr.refl No _ | apply Fr.drew | apply Fr.drewN | apply Fr.alloc)) (fun _ _ f => f.elim))⟩
    · unfold NewAt2
      have hsz4 := H4.out.size
      obtain ⟨s5, s4, s3, s2, s1⟩ := six_at w4 _ _ _ _ _ _
      refine ⟨_, _, _, _, ?_, s5, (by first | exact s4 | exact s3 | exact s2 | exact s1), (by first | exact s4 | exact s3 | exact s2 | exact s1), (by first | exact s4 | exact s3 | exact s2 | exact s1), (by first | exact s4 | exact s3 | exact s2 | exact s1)⟩
      exact ⟨by omega, by omega, by omega, by omega, by omega, by omega⟩
end Go.Proofs.YtlmhphejgahfbaaGreatDoor
/- Layer 15 (ledger): New and Begin over a ledger's parts. -/
set_option linter.unusedVariables false
set_option linter.unusedSimpArgs false
namespace Go.Proofs.YtlmhphejgahfbaaGreatDoor
open Go.RowKit

theorem sto_new_at {w : World} {F : Nat → Prop} {sb vb : Nat} (h1 : F sb) (h2 : F vb) (hs : w.heap[sb]? = some (.cells #[.map (some vb), .int .i64 0] 159 (0, 0))) (hv : w.heap[vb]? = some (.map #[] 0)) : StoreAt w F sb Sto.empty := by
  have hne : vb ≠ sb := by rintro rfl; rw [hs] at hv; cases hv
  refine ⟨h1, vb, [], fun _ _ => False, h2, hne, hs, ⟨#[], 0, hv, rfl, by simp, by simp, by simp⟩, ?_, fun k i hi => (show False from hi).elim⟩
  exact ⟨List.Pairwise.nil, fun k => ⟨fun _ => rfl, fun _ => rfl⟩, (fun k v c h1 _ => by cases h1), fun _ _ hi => (show False from hi).elim, fun _ _ _ _ hi => (show False from hi).elim⟩
/-- A new ledger's parts. -/
theorem newAt_led6 {w0 w1 w : World} {lb : Nat} {A : Option Addr} {c : Nat} {tabs : List Tab} {F : Nat → Prop} (h : NewAt2 w w1.heap.size lb A tabs.length c) (hR : Rd tTab w F A tabs) (hF : ∀ i, F i → w0.heap.size ≤ i ∧ i < w1.heap.size) (hc : tabs.length ≤ c) (hk : KAt w0) (hkw : KAt w) (hz : w0.heap.size ≤ w1.heap.size) :
    ∃ col, LedAt w col lb (Led.new tabs) ∧ (∀ i, i < w0.heap.size → col i = 0) ∧ ∀ i, w0.heap.size ≤ i → i < w1.heap.size → col i = 6 := by
  obtain ⟨sb, vb, mb, gb, ⟨b1, b2, b3, b4, b5, nvm⟩, h1, h2, h3, h4, h5⟩ := h
  have n1 : lb ≠ sb := by rintro rfl; rw [h1] at h2; injection h2 with h2; injection h2 with h2; simp at h2
  have n2 : lb ≠ vb := by rintro rfl; rw [h1] at h3; cases h3
  have n3 : lb ≠ mb := by rintro rfl; rw [h1] at h4; cases h4
  have n4 : lb ≠ gb := by rintro rfl; rw [h1] at h5; injection h5 with h5; injection h5 with h5; simp at h5
  have n5 : sb ≠ mb := by rintro rfl; rw [h2] at h4; cases h4
  have n6 : sb ≠ gb := by rintro rfl; rw [h2] at h5; injection h5 with h5; injection h5 with h5; simp at h5
  have n7 : gb ≠ mb := by rintro rfl; rw [h5] at h4; cases h4
  have n8 : gb ≠ vb := by rintro rfl; rw [h5] at h3; cases h3
  have l1 := blk_lt h1
  have l2 := blk_lt h2
  have l3 := blk_lt h3
  have l4 := blk_lt h4
  have l5 := blk_lt h5
  obtain ⟨col, hcol⟩ : ∃ col : Nat → Nat, col = fun i => if i < w0.heap.size then 0 else if i < w1.heap.size then 6 else if i = lb then 1 else if i = mb then 2 else if i = sb ∨ i = vb then 3 else if i = gb then 4 else 9 := ⟨_, rfl⟩
  have e0 : ∀ i, i < w0.heap.size → col i = 0 := fun i hi => by rw [hcol]; simp only [if_pos hi]
  have e6 : ∀ i, w0.heap.size ≤ i → i < w1.heap.size → col i = 6 := fun i h h' => by rw [hcol]; simp only [if_neg (show ¬ i < w0.heap.size by omega), if_pos h']
  have eb : ∀ i, w1.heap.size ≤ i → col i = if i = lb then 1 else if i = mb then 2 else if i = sb ∨ i = vb then 3 else if i = gb then 4 else 9 := fun i h => by rw [hcol]; simp only [if_neg (show ¬ i < w0.heap.size by omega), if_neg (show ¬ i < w1.heap.size by omega)]
  have e1 : col lb = 1 := by rw [eb _ b1, if_pos rfl]
  have e2 : col mb = 2 := by rw [eb _ b4, if_neg (fun e => n3 e.symm), if_pos rfl]
  have e3 : col sb = 3 := by rw [eb _ b2, if_neg (fun e => n1 e.symm), if_neg n5, if_pos (.inl rfl)]
  have e3' : col vb = 3 := by rw [eb _ b3, if_neg (fun e => n2 e.symm), if_neg nvm, if_pos (.inr rfl)]
  have e4 : col gb = 4 := by rw [eb _ b5, if_neg (fun e => n4 e.symm), if_neg n7, if_neg (by rintro (e | e); exact n6 e.symm; exact n8 e), if_pos rfl]
  refine ⟨col, ⟨A, c, sb, mb, .slice (some ⟨gb, 0, none⟩) 1 1, [], ?_⟩, e0, e6⟩
  refine { blk := h1, c1 := e1, c2 := e2, cap := hc, tabs := hR.mono fun i hi _ => e6 i (hF i hi).1 (hF i hi).2, sto := sto_new_at e3 e3' h2 h3, map := ⟨#[], 0, h4, rfl, by simp, by simp, by simp⟩, txs := ⟨fun _ _ => rfl, fun id x hx => by cases hx⟩, sts := ?_, own := fun k hk => ?_, kat := hkw, kc := e0 _ (kat_lt hk) }
  · refine ⟨[.string firstD, .string dE, .string (sha []), .pointer none], ⟨rfl, .inr ⟨gb, 1, _, rfl, Nat.zero_le _, h5, Nat.le_refl _, by decide, rfl, rfl⟩⟩, Row.single (t := tStt col) ⟨.pointer none, rfl, rfl⟩, fun k hk => ?_⟩
    simp [Value.ownBlock] at hk; subst hk; exact .inl e4
  · simp [Value.ownBlock] at hk; subst hk; exact e4
theorem newAt_led {w0 w1 w : World} {lb : Nat} {A : Option Addr} {c : Nat} {tabs : List Tab} {F : Nat → Prop} (h : NewAt2 w w1.heap.size lb A tabs.length c) (hR : Rd tTab w F A tabs) (hF : ∀ i, F i → w0.heap.size ≤ i ∧ i < w1.heap.size) (hc : tabs.length ≤ c) (hk : KAt w0) (hkw : KAt w) (hz : w0.heap.size ≤ w1.heap.size) :
    ∃ col, LedAt w col lb (Led.new tabs) ∧ ∀ i, i < w0.heap.size → col i = 0 := by
  obtain ⟨col, h1, h2, _⟩ := newAt_led6 h hR hF hc hk hkw hz
  exact ⟨col, h1, h2⟩

set_option maxHeartbeats 1000000 in
theorem led_begin_at {w : World} {col : Nat → Nat} {lb : Nat} {L : Led} {m : Nat} (h : LedAt w col lb L) (hok : L.Ok m) (hm : m ≤ 4000) :
    Calls Tryz.prog 11 #[.pointer (some ⟨lb, 0, none⟩)] w fun e w' => e = .returned (.int .i64 (L.next + 1)) ∧ (∃ col', (∀ i, i < w.heap.size → col' i = col i) ∧ LedAt w' col' lb L.begin_) ∧ Fr (fun i => col i = 1 ∨ col i = 2) w w' := by
  obtain ⟨A, c, sb, mb, vst, l, hP⟩ := h
  obtain ⟨hsc, mv, l2, G, _, _, hsb, _⟩ := hP.sto
  have hc1 := hP.c1
  have hc2 := hP.c2
  have hsc' : col sb = 3 := hsc
  have hn1 := hok.next1
  have hn0 := hok.next0
  refine (led_begin hP.blk hsb hP.map (fun e => by rw [e] at hc1; omega) (fun e => by rw [e] at hc1; omega) (fun e => by rw [e] at hsc'; omega) hn0 (by omega)).mono ?_
  rintro e w' ⟨xb, rfl, hb', hm', ⟨hxB, yb, hyB, hx, hy⟩, hf⟩
  have hlt : ∀ i, i < w.heap.size → ext col w.heap.size (txCol (L.next + 1)) i = col i := fun i hi => ext_old col hi
  have hr := hP.recol (col' := ext col w.heap.size (txCol (L.next + 1))) hlt
  have hS : ∀ i, i < w.heap.size → ext col w.heap.size (txCol (L.next + 1)) i ≠ 1 → ext col w.heap.size (txCol (L.next + 1)) i ≠ 2 → ¬ (i = lb ∨ i = mb) := fun i hi h1 h2 e => by
    rw [hlt i hi] at h1 h2
    rcases e with e | e
    · rw [e] at h1; exact h1 hc1
    · rw [e] at h2; exact h2 hc2
  have hnew : ∀ i, w.heap.size ≤ i → ext col w.heap.size (txCol (L.next + 1)) i = txCol (L.next + 1) := fun i hi => ext_new col hi
  have hT : TxAt w' (fun i => ext col w.heap.size (txCol (L.next + 1)) i = txCol (L.next + 1)) xb L.s.now [] := by
    refine ⟨hnew _ hxB, yb, [], hnew _ hyB, ?_, hx, ⟨#[], 0, hy, rfl, by simp, by simp, by simp⟩, ⟨List.Pairwise.nil, fun _ _ => rfl, fun k x h => by cases h⟩⟩
    rintro rfl
    rw [hx] at hy; cases hy
  refine ⟨rfl, ⟨ext col w.heap.size (txCol (L.next + 1)), hlt, A, c, sb, mb, vst, layI (L.next + 1) (.pointer (some ⟨xb, 0, none⟩)) l, ?_⟩, hf.mono fun i _ e => by rcases e with e | e; exact .inl (by rw [e]; exact hc1); exact .inr (by rw [e]; exact hc2)⟩
  refine { blk := hb', c1 := hr.c1, c2 := hr.c2, cap := hr.cap, tabs := hr.tabs.stab fun i hi hl => hf.block i hl (hS i hl (by rw [hi]; decide) (by rw [hi]; decide)), sto := hr.sto.stab hf.size fun i hi hl => hf.block i hl (hS i hl (by rw [hi]; decide) (by rw [hi]; decide)), map := hm', txs := ⟨fun id h' => ?_, fun id y hy => ?_⟩, sts := hr.sts.stab fun i hi hl => hf.block i hl (hS i hl (by rcases hi with hi | hi <;> rw [hi] <;> decide) (by rcases hi with hi | hi <;> rw [hi] <;> decide)), own := hr.own, kat := hP.kat.fr hf (hS _ (kat_lt hP.kat) (by rw [hr.kc]; decide) (by rw [hr.kc]; decide)), kc := hr.kc }
  · rw [find_begin (fun x hx => (hok.ids x hx).2)] at h'
    rw [look_layI]
    split at h'
    · cases h'
    · rename_i e; rw [if_neg (fun q => e q.symm)]; exact hP.txs.none_ _ h'
  · rw [find_begin (fun x hx => (hok.ids x hx).2)] at hy
    rw [look_layI]
    split at hy
    · rename_i e
      injection hy with hy
      subst hy
      subst e
      exact ⟨xb, if_pos rfl, hT⟩
    · rename_i e
      obtain ⟨xb', h1, h2⟩ := hr.txs.some_ id y hy
      refine ⟨xb', by rw [if_neg (fun q => e q.symm)]; exact h1, h2.stab fun i hi hl => hf.block i hl (hS i hl ?_ ?_)⟩
      · have := txCol_ge id; omega
      · have := txCol_ge id; omega
end Go.Proofs.YtlmhphejgahfbaaGreatDoor
