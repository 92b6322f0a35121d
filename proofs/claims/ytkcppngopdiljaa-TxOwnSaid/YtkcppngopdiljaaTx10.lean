/- Layer 14 (tx): Scan. -/
import Derived.Test.YtkcppngopdiljaaSpec14b
import Derived.Test.YtkcppngopdiljaaTx3
import Derived.Test.YtkcppngopdiljaaTx8
import Derived.Test.YtkcppngopdiljaaTx9
import Derived.Test.YtkcppngopdiljaaRange
import Derived.Deep.RegionHeld3
import Derived.BigQuiet
import Derived.StillTailTactics
import Derived.IntWalk
set_option linter.unusedVariables false
set_option linter.unusedSimpArgs false
namespace Go.Proofs.Ytkcppngopdiljaa
open Go.RowKit

theorem tx_scan_nil (s : Option Addr) (lo hi : ByteArray) (most : Int) (w : World) : Calls Try.prog 26 #[.pointer none, .pointer s, .string lo, .string hi, .int .i64 most] w fun e w' => e = .returned (.slice none 0 0) ∧ Fr No w w' := by
  go_enter Try.func26, Try.ntmps26
  go_wp2
  go_ret
  exact ⟨rfl, (Fr.refl No w).alloc _⟩
theorem tx_scan_neg (xb : Nat) (s : Option Addr) (lo hi : ByteArray) (most : Int) (hm : most < 0) (w : World) : Calls Try.prog 26 #[.pointer (some ⟨xb, 0, none⟩), .pointer s, .string lo, .string hi, .int .i64 most] w fun e w' => e = .returned (.slice none 0 0) ∧ Fr No w w' := by
  go_enter Try.func26, Try.ntmps26
  go_wp2
  go_ret
  exact ⟨rfl, (Fr.refl No w).alloc _⟩

/-- Of which keys it wrote something itself. -/
def ownP (ws : List Wr) (k : ByteArray) : Bool := (wfind k ws).isSome

set_option maxHeartbeats 1000000 in
set_option maxRecDepth 100000 in
theorem scan1_fn {w : World} {F : Nat → Prop} {xb bx : Nat} {base : Int} {ws : List Wr} (h : TxAt w F xb base ws) (hb : w.cell? ⟨bx, 0, none⟩ = some (.pointer (some ⟨xb, 0, none⟩))) (k : ByteArray) (A : Option Addr) (n c : Nat) :
    Calls Try.prog 46 (#[.agg #[.string k, .slice A n c]] ++ #[.pointer (some ⟨bx, 0, none⟩)]) w fun e w' => e = .returned (.bool (ownP ws k)) ∧ Fr No w w' := by
  obtain ⟨W, hW⟩ : ∃ W, W = w.alloc (.cells #[.string k, .slice A n c] 65) := ⟨_, rfl⟩
  have hfW : Fr No w W := by rw [hW]; exact (Fr.refl No w).alloc _
  have hbW : W.heap[w.heap.size]? = some (.cells #[.string k, .slice A n c] 65 (0, 0)) := by rw [hW]; exact heap_alloc_new w _
  have hbx := fun o => cell_alloc hb o
  have H := Lib.hid (And.intro (tx_own k (h.fr0 hfW)) hfW)
  clear h hb hfW hbW
  change Calls _ _ #[.agg #[.string k, .slice A n c], .pointer (some ⟨bx, 0, none⟩)] _ _
  go_enter Try.func46, Try.ntmps46
  go_wp2_with fail
  rw [← hW]
  clear hW
  refine H.out.1.mono ?_
  rintro e1 w1 ⟨⟨k1, A1, n1, c1, g1, rfl, _⟩, hf1⟩
  have HF := Lib.hid (H.out.2.trans (hf1.mono fun _ _ f => f.elim))
  clear hf1
  go_wp2_with fail
  go_ret
  exact ⟨rfl, HF.out.alloc _⟩

theorem Ow.takeN {α : Type} {t : Ty α} {e : TypeId} {w : World} {F : Nat → Prop} {A : Option Addr} {n c : Nat} {xs : List α} (h : Ow t e w F (.slice A n c) xs) {k : Nat} (hk : k ≤ n) : Ow t e w F (.slice A k c) (xs.take k) := by
  obtain rfl := h.rd.1
  obtain ⟨cs, h1, h2, h3⟩ := h
  rcases h1.2 with ⟨h5, h4⟩ | ⟨g, cap, cur, h4, h5, hb, hnc, hcm, hsz, htk⟩
  · obtain rfl := List.eq_nil_of_length_eq_zero h4
    obtain rfl : k = 0 := by simpa using hk
    exact ⟨cs, h1, by simpa using h2, h3⟩
  · injection h4 with h6 h7 h8
    subst h6
    subst h8
    refine ⟨cs.take (k * t.sz), ⟨?_, .inr ⟨g, c, cur, by rw [List.length_take, Nat.min_eq_left hk], h5, hb, ?_, hcm, hsz, ?_⟩⟩, h2.take k, h3⟩
    · rw [List.length_take, h1.1, List.length_take, Nat.min_eq_left hk, Nat.min_eq_left (Nat.mul_le_mul_right _ hk)]
    · rw [List.length_take]; omega
    · rw [← htk, List.take_take, List.length_take, Nat.min_eq_left hk, Nat.min_eq_left (Nat.mul_le_mul_right _ hk)]

theorem TxHeld.entry {w : World} {F : Nat → Prop} {ws : List Wr} {l : List (ByteArray × Value)} (h : TxHeld w F l ws) (hn : (l.map Prod.fst).Nodup) {p : ByteArray × Value} (hp : p ∈ l) : ∃ x, wfind p.1 ws = some x ∧ x.key = p.1 ∧ WrIs w F p.2 x := by
  have hl := look_of_mem hn (show (p.1, p.2) ∈ l from hp)
  cases hf : wfind p.1 ws with
  | none => rw [h.none_ _ hf] at hl; cases hl
  | some x =>
    obtain ⟨v, hv, hw⟩ := h.some_ _ _ hf
    rw [hl] at hv
    injection hv with hv
    subst hv
    exact ⟨x, rfl, (wfind_some hf).2, hw⟩

/-- Of one entry: what comes of it. -/
def selK (ws : List Wr) (lo hi : ByteArray) (p : ByteArray × Value) : Option Item := (wfind p.1 ws).bind (wsel lo hi)
theorem selK_key {ws : List Wr} {lo hi : ByteArray} {p : ByteArray × Value} {q : Item} (h : selK ws lo hi p = some q) : q.1 = p.1 ∧ (wfind p.1 ws).isSome = true := by
  unfold selK at h
  cases hf : wfind p.1 ws with
  | none => rw [hf] at h; cases h
  | some x =>
    rw [hf] at h
    obtain ⟨_, _, rfl⟩ := wsel_some.1 h
    exact ⟨(wfind_some hf).2, rfl⟩
theorem selK_of {ws : List Wr} {lo hi key : ByteArray} {row : Bs} {gone : Bool} {v : Value} (hx : wfind key ws = some ⟨key, row, gone⟩) : selK ws lo hi (key, v) = if !gone && inB lo hi key then some (key, row) else none := by
  unfold selK
  rw [show (key, v).1 = key from rfl, hx]
  rfl
theorem selK_skip {ws : List Wr} {lo hi key : ByteArray} {row : Bs} {gone : Bool} {v : Value} (hx : wfind key ws = some ⟨key, row, gone⟩) (h : gone = true ∨ inB lo hi key = false) : selK ws lo hi (key, v) = none := by
  rw [selK_of hx]
  rcases h with h | h <;> rw [h] <;> simp
theorem selK_in {ws : List Wr} {lo hi key : ByteArray} {row : Bs} {v : Value} (hx : wfind key ws = some ⟨key, row, false⟩) (h : inB lo hi key = true) : selK ws lo hi (key, v) = some (key, row) := by
  rw [selK_of hx, h]; rfl
theorem inB_lo {lo hi key : ByteArray} (h : Op.bytesLess key.toList lo.toList = true) : inB lo hi key = false := by
  unfold inB kl; rw [h]; rfl
theorem inB_hi {lo hi key : ByteArray} (h1 : hi.toList.isEmpty = false) (h2 : Op.bytesLess key.toList hi.toList = false) : inB lo hi key = false := by
  unfold inB kl
  rw [size_isEmpty] at h1
  rw [h2, h1]; simp
theorem inB_yes {lo hi key : ByteArray} (h : ¬ Op.bytesLess key.toList lo.toList = true) (h2 : hi.toList.isEmpty = true ∨ Op.bytesLess key.toList hi.toList = true) : inB lo hi key = true := by
  unfold inB kl
  rw [size_isEmpty] at h2
  rcases h2 with h2 | h2 <;> rw [h2] <;> simpa using h
theorem mem_selK {w : World} {F : Nat → Prop} {ws : List Wr} {lo hi : ByteArray} {l done : List (ByteArray × Value)} (h : TxHeld w F l ws) (hp : done.Perm l) (p : Item) : p ∈ done.filterMap (selK ws lo hi) ↔ p ∈ ws.filterMap (wsel lo hi) := by
  rw [mem_wsel h.rising, List.mem_filterMap]
  constructor
  · rintro ⟨q, hq, hs⟩
    have hk := selK_key hs
    unfold selK at hs
    cases hf : wfind q.1 ws with
    | none => rw [hf] at hs; cases hs
    | some x =>
      rw [hf] at hs
      obtain ⟨h1, h2, rfl⟩ := wsel_some.1 hs
      have e := (wfind_some hf).2
      exact ⟨⟨x, by rw [e]; exact hf, h1, rfl⟩, h2⟩
  · rintro ⟨⟨x, hf, h1, h2⟩, h3⟩
    obtain ⟨v, hv, _⟩ := h.some_ _ _ hf
    refine ⟨(p.1, v), hp.symm.subset (look_mem hv), ?_⟩
    unfold selK
    rw [hf]
    refine wsel_some.2 ⟨h1, by rw [(wfind_some hf).2]; exact h3, ?_⟩
    rw [(wfind_some hf).2, h2]
theorem selK_nodup {ws : List Wr} {lo hi : ByteArray} {l done : List (ByteArray × Value)} (hn : (l.map Prod.fst).Nodup) (hp : done.Perm l) {L : List Item} (hL : (L.map Prod.fst).Nodup) (hf : ∀ x ∈ L, (wfind x.1 ws).isSome = false) : ((L ++ done.filterMap (selK ws lo hi)).map Prod.fst).Nodup := by
  have hd : (done.map Prod.fst).Nodup := (hp.map Prod.fst).nodup_iff.2 hn
  rw [List.map_append, List.nodup_append]
  refine ⟨hL, ?_, ?_⟩
  · unfold List.Nodup at *
    rw [List.pairwise_map] at *
    rw [List.pairwise_filterMap]
    exact hd.imp fun hab p hp q hq => by rw [(selK_key hp).1, (selK_key hq).1]; exact hab
  · intro a ha b hb
    obtain ⟨x, hx, rfl⟩ := List.mem_map.1 ha
    obtain ⟨y, hy, rfl⟩ := List.mem_map.1 hb
    obtain ⟨q, _, hq⟩ := List.mem_filterMap.1 hy
    intro e
    have h1 := hf x hx
    rw [e, (selK_key hq).1, (selK_key hq).2] at h1
    cases h1

theorem scan_free {ws : List Wr} {s : Sto} {base : Int} {lo hi : ByteArray} {N : Int} {L0 : List Item} (hs : Rising (s.kc.map Prod.fst)) (hL0 : (s.scan base lo hi N).filter (fun x => !ownP ws x.1) = L0) : (L0.map Prod.fst).Nodup ∧ ∀ x ∈ L0, (wfind x.1 ws).isSome = false := by
  subst hL0
  refine ⟨?_, fun x hx => ?_⟩
  · unfold Sto.scan
    exact ((List.filter_sublist.trans (List.take_sublist _ _)).map _).nodup (all_rising hs).nodup
  · have := (List.mem_filter.1 hx).2
    unfold ownP at this
    simpa using this
theorem scan_fin {w : World} {F : Nat → Prop} {ws : List Wr} {s : Sto} {m : Nat} {base : Int} {lo hi : ByteArray} {most K : Int} {l done : List (ByteArray × Value)} {ys L0 : List Item} (h : TxHeld w F l ws) (hsr : Rising (s.kc.map Prod.fst)) (hs : s.Small m) (hm : m ≤ 100000000) (h0 : 0 ≤ most)
    (hK : K = if (1099511627776 : Int) < most then 1099511627776 else most) (hL0 : (s.scan base lo hi (K + (ws.length : Int))).filter (fun x => !ownP ws x.1) = L0) (hp : done.Perm l) (hy : ys.Perm (L0 ++ done.filterMap (selK ws lo hi))) (hr : Rising (ys.map Prod.fst)) :
    ys.take most.toNat = xscan ws s base lo hi most := by
  refine xscan_of (N := (K + (ws.length : Int)).toNat) h.rising hsr ?_ hr fun p => ?_
  · have := hs.keys
    rw [hK]
    split
    · right; omega
    · left; omega
  · rw [hy.mem_iff, List.mem_append, mem_selK h hp, ← hL0]
    have e : (fun x : Item => !ownP ws x.1) = free ws := by
      funext x
      unfold ownP free
      cases wfind x.1 ws <;> rfl
    rw [e]
    rfl

/-- The loop over what it wrote. -/
structure ScInv (W : World) (mb r : Nat) (l : List (ByteArray × Value)) (ws : List Wr) (lo hi : ByteArray) (L0 : List Item) (done : List (ByteArray × Value)) (n : Nat) (v : Value) (wr : World) : Prop where
  rng : Ranging wr mb r l done
  len : n = (L0 ++ done.filterMap (selK ws lo hi)).length
  own : Ow tItemO 65 wr (fun i => W.heap.size ≤ i ∧ i ≠ r) v (L0 ++ done.filterMap (selK ws lo hi))
  fr : Fr (fun i => W.heap.size ≤ i) W wr
section
variable {W : World} {mb r : Nat} {l : List (ByteArray × Value)} {ws : List Wr} {lo hi : ByteArray} {L0 : List Item} {done : List (ByteArray × Value)} {n : Nat} {v : Value} {wr w1 w2 w3 : World} {p : ByteArray × Value}
theorem ScInv.skip (I : ScInv W mb r l ws lo hi L0 done n v wr) (hr : W.heap.size ≤ r) (hg : Ranging w1 mb r l (done ++ [p])) (f1 : Fr (fun i => i = r) wr w1) (hs : selK ws lo hi p = none) (f2 : Fr No w1 w2) : ScInv W mb r l ws lo hi L0 (done ++ [p]) n v w2 := by
  have e : (done ++ [p]).filterMap (selK ws lo hi) = done.filterMap (selK ws lo hi) := by rw [List.filterMap_append]; simp [hs]
  have f12 : Fr (fun i => i = r) wr w2 := f1.trans (f2.mono fun _ _ f => f.elim)
  exact ⟨hg.fr f2 (fun f => f) (fun f => f), by rw [e]; exact I.len, by rw [e]; exact I.own.fr f12 fun k hk => hk.2, I.fr.trans (f12.mono fun k _ e => .inl (by rw [e]; exact hr))⟩
theorem ScInv.add (I : ScInv W mb r l ws lo hi L0 done n v wr) (hmb : mb < W.heap.size) (hr : W.heap.size ≤ r) (hg : Ranging w1 mb r l (done ++ [p])) (f1 : Fr (fun i => i = r) wr w1) (h1 : w1.heap.size = wr.heap.size) {q : Item} (hs : selK ws lo hi p = some q) (f2 : Fr No w1 w2) {A3 : Option Addr} {n3 c3 : Nat} (hn : n3 = n + 1)
    (ho : Ow tItemO 65 w3 (fun k => (W.heap.size ≤ k ∧ k ≠ r) ∨ w2.heap.size ≤ k) (.slice A3 n3 c3) ((L0 ++ done.filterMap (selK ws lo hi)) ++ [q])) (hgr : w2.grownBy w3 v.ownBlock) : ScInv W mb r l ws lo hi L0 (done ++ [p]) (n + 1) (.slice A3 (n + 1) c3) w3 := by
  have e : (done ++ [p]).filterMap (selK ws lo hi) = done.filterMap (selK ws lo hi) ++ [q] := by rw [List.filterMap_append]; simp [hs]
  have f12 : Fr (fun i => i = r) wr w2 := f1.trans (f2.mono fun _ _ f => f.elim)
  have hrl := hg.lt
  have hsz := f2.size
  have hne : ∀ k, v.ownBlock = some k → W.heap.size ≤ k ∧ k ≠ r := fun k hk => (I.own.own hk).1
  have f23 : Fr (fun i => v.ownBlock = some i) w2 w3 := (Fr.refl _ w2).grown hgr fun k hk => .inl hk
  subst hn
  refine ⟨(hg.fr f2 (fun f => f) (fun f => f)).fr f23 (fun h => ?_) (fun h => (hne _ h).2 rfl), by rw [e, ← List.append_assoc]; simp [I.len]; omega, ?_, (I.fr.trans (f12.mono fun k _ e => .inl (by rw [e]; exact hr))).trans (f23.mono fun k _ h => .inl (hne k h).1)⟩
  · have := (hne _ h).1
    omega
  · rw [e, ← List.append_assoc]
    refine ho.mono fun k hk hl => ?_
    rcases hk with hk | hk
    · exact hk
    · have := I.fr.size
      exact ⟨by omega, by omega⟩
end

theorem scan_len {s : Sto} {m : Nat} (hs : s.Small m) (a : Int) (lo hi : ByteArray) (most : Int) : (s.scan a lo hi most).length ≤ m := by
  unfold Sto.scan
  rw [Sto.all_eq]
  exact Nat.le_trans (List.length_take_le' _ _) (Nat.le_trans (List.length_filterMap_le _ _) hs.keys)

end Go.Proofs.Ytkcppngopdiljaa
