/- Texts of this claim, one behind the other: Tx3, KeysW, Store3. -/
import Derived.Test.YtlmhphejgahfbaaGreatDoorMrowledgernil21
import Derived.Test.YtlmhphejgahfbaaGreatDoorShelf2
import Derived.Test.YtlmhphejgahfbaaGreatDoorMrowledgernil20
import Derived.Test.YtlmhphejgahfbaaGreatDoorShelf
import Derived.Sort.KeysCollected
/- Layer 14 (tx): Put, Del, own. -/
set_option linter.unusedVariables false
set_option linter.unusedSimpArgs false
namespace Go.Proofs.YtlmhphejgahfbaaGreatDoor
open Go.RowKit

theorem wwrite_len {ws : List Wr} {x : Wr} (hr : Rising (ws.map Wr.key)) (h : ws.length ≤ 20) : (wwrite ws x).1.length ≤ 20 := by
  unfold wwrite
  split
  · exact h
  · rename_i hn
    show (wput x ws).length ≤ 20
    rw [wput_length hr]
    split
    · rename_i h1
      have : ¬ 20 ≤ ws.length := fun h2 => hn ⟨h1, h2⟩
      omega
    · exact h
theorem tx_write {w : World} {F R : Nat → Prop} {xb : Nat} {base : Int} {ws : List Wr} {A : Option Addr} {c : Nat} {x : Wr} (h : TxAt w F xb base ws) (hr : Rd Ty.u8 w R A x.row) (hd : ∀ i, R i → ¬ F i) (hn : ws.length ≤ 20) (hc : x.row.length ≤ c) :
    Calls Tryz.prog 99 #[.pointer (some ⟨xb, 0, none⟩), .agg #[.string x.key, .slice A x.row.length c, .bool x.gone]] w fun e w' => e = .returned (.int .i64 (wwrite ws x).2) ∧ TxAt w' (fun i => F i ∨ R i) xb base (wwrite ws x).1 ∧ Fr F w w' := by
  cases hf : wfind x.key ws with
  | none => exact tx_write_none h hr hd hf hn hc
  | some y =>
    have hwr : wwrite ws x = (wput x ws, 0) := by unfold wwrite; rw [hf]; exact if_neg (by simp)
    rw [hwr]
    exact tx_write_some h hr hd hf hc

theorem tx_put {w : World} {F R : Nat → Prop} {xb : Nat} {base : Int} {ws : List Wr} {A : Option Addr} {n c : Nat} {row : Bs} (key : ByteArray) (h : TxAt w F xb base ws) (hr : Rd Ty.u8 w R A row) (hn : ws.length ≤ 20) (hl : n = row.length) (hl2 : row.length ≤ 140737488355328) :
    Calls Tryz.prog 48 #[.pointer (some ⟨xb, 0, none⟩), .string key, .slice A n c] w fun e w' => e = .returned (.int .i64 (wwrite ws ⟨key, row, false⟩).2) ∧ TxAt w' (fun i => F i ∨ w.heap.size ≤ i) xb base (wwrite ws ⟨key, row, false⟩).1 ∧ Fr F w w' := by
  have HC := Lib.hid (clone_ok (c := c) hr hl hl2)
  have H := Lib.hid (h.mono fun i hi hl => (⟨hi, hl⟩ : F i ∧ i < w.heap.size))
  clear h hr hl hl2
  go_enter Tryz.func48, Tryz.ntmps48
  go_wp2_with fail
  refine HC.out.mono ?_
  rintro e1 w1 ⟨A1, c1, rfl, ho, hf1⟩
  have hwr := tx_write (x := ⟨key, row, false⟩) (c := c1) (H.out.fr0 hf1) ho.rd.2.2 (fun i hi h => by have := h.2; have hi' : w.heap.size ≤ i := hi; omega) hn ho.rd.2.1
  have HW := Lib.hid (And.intro hwr hf1)
  clear hwr ho hf1
  go_wp2_with fail
  refine HW.out.1.mono ?_
  rintro e2 w2 ⟨rfl, ht, hf2⟩
  have HT := Lib.hid (And.intro (ht.mono fun i hi _ => hi.imp (fun h => h.1) id) (HW.out.2.mono (G := F) (fun _ _ f => f.elim) |>.trans (hf2.mono fun i _ hi => .inl hi.1)))
  clear ht hf2
  go_wp2_with fail
  go_ret
  exact ⟨rfl, HT.out⟩
theorem tx_del {w : World} {F : Nat → Prop} {xb : Nat} {base : Int} {ws : List Wr} (key : ByteArray) (h : TxAt w F xb base ws) (hn : ws.length ≤ 20) :
    Calls Tryz.prog 60 #[.pointer (some ⟨xb, 0, none⟩), .string key] w fun e w' => e = .returned (.int .i64 (wwrite ws ⟨key, [], true⟩).2) ∧ TxAt w' F xb base (wwrite ws ⟨key, [], true⟩).1 ∧ Fr F w w' := by
  have HW := Lib.hid (tx_write (x := ⟨key, [], true⟩) (A := none) (c := 0) (R := No) h Rd.nil (fun i f => f.elim) hn (Nat.le_refl _))
  clear h
  go_enter Tryz.func60, Tryz.ntmps60
  go_wp2_with fail
  refine HW.out.mono ?_
  rintro e2 w2 ⟨rfl, ht, hf2⟩
  have HT := Lib.hid (And.intro (ht.mono fun i hi _ => hi.elim id (fun f => f.elim)) hf2)
  clear ht hf2
  go_wp2_with fail
  go_ret
  exact ⟨rfl, HT.out⟩

/-- What own answers. -/
def OwnIs (w' : World) (F : Nat → Prop) (e : Ending) (o : Option Wr) : Prop :=
  ∃ k A n c g, e = .returned (.tuple #[.agg #[.string k, .slice A n c, .bool g], .bool o.isSome]) ∧ ∀ y, o = some y → k = y.key ∧ n = y.row.length ∧ g = y.gone ∧ n ≤ c ∧ Rd Ty.u8 w' F A y.row
set_option maxHeartbeats 1000000 in
set_option maxRecDepth 100000 in
theorem tx_own {w : World} {F : Nat → Prop} {xb : Nat} {base : Int} {ws : List Wr} (key : ByteArray) (h : TxAt w F xb base ws) :
    Calls Tryz.prog 116 #[.pointer (some ⟨xb, 0, none⟩), .string key] w fun e w' => OwnIs w' F e (wfind key ws) ∧ Fr No w w' := by
  obtain ⟨h1, mb, l, h2, h3, h4, h5, h6⟩ := h
  obtain ⟨W, hW⟩ : ∃ W, W = w.alloc (.cells #[.string ⟨#[]⟩, .slice none 0 0, .bool false] 117) := ⟨_, rfl⟩
  have hfW : Fr No w W := by rw [hW]; exact (Fr.refl No w).alloc _
  have hbW : W.heap[w.heap.size]? = some (.cells #[.string ⟨#[]⟩, .slice none 0 0, .bool false] 117 (0, 0)) := by rw [hW]; exact heap_alloc_new w _
  have a1 := blk_cell (hfW.blk h4 (fun f => f)) 1
  simp at a1
  have hrun := (run_map_look (P := Tryz.prog) (w := W) (h5.stab (hfW.block _ h5.lt (fun f => f))) 171 _ _ Tryz.underlying171 Tryz.underlying9 _ (zero_wr W) key).2
  have hk : ∃ k A n c g, (look key l).getD (.agg #[.string ⟨#[]⟩, .slice none 0 0, .bool false]) = .agg #[.string k, .slice A n c, .bool g] ∧ (look key l).isSome = (wfind key ws).isSome ∧ ∀ y, wfind key ws = some y → k = y.key ∧ n = y.row.length ∧ g = y.gone ∧ n ≤ c ∧ Rd Ty.u8 w F A y.row := by
    cases hf : wfind key ws with
    | none => rw [h6.none_ _ hf]; exact ⟨_, _, _, _, _, rfl, rfl, fun y h => by cases h⟩
    | some y =>
      obtain ⟨v, hl, A, c, rfl, hc, hr⟩ := h6.some_ _ _ hf
      rw [hl]
      exact ⟨_, _, _, _, _, rfl, rfl, fun y' h => by injection h with h; subst h; exact ⟨rfl, rfl, rfl, hc, hr.mono fun i hi _ => hi.1⟩⟩
  obtain ⟨k, A, n, c, g, hv, hs, hy⟩ := hk
  rw [hv, hs] at hrun
  have hb4 := fun (o : Obj) => blk_set (blk_set (blk_set (((Fr.refl No W).alloc o).blk hbW (fun f => f)) 0 (.string k)) 1 (.slice A n c)) 2 (.bool g)
  have z0 := blk_frozen hbW 0
  have z1 := blk_frozen hbW 1
  have z2 := blk_frozen hbW 2
  have b0 := blk_cell hbW 0
  have b1 := blk_cell hbW 1
  have b2 := blk_cell hbW 2
  simp at b0 b1 b2
  have hlW : w.heap.size < W.heap.size := blk_lt hbW
  have c1 := blk_cell h4 1
  simp at c1
  have hxl : xb < w.heap.size := blk_lt h4
  have H := Lib.hid (And.intro hfW (And.intro hy hb4))
  clear h1 h2 h3 h4 h5 h6 hfW hbW hv hs hy hb4
  go_enter Tryz.func116, Tryz.ntmps116
  subst hW
  go_wp2_with fail
  have hb := blk_two1 w (.cells #[.string k, .slice A n c, .bool g] 117) (.cells #[.string k, .slice A n c, .bool g] 117)
  have d0 := blk_cell hb 0
  have d1 := blk_cell hb 1
  have d2 := blk_cell hb 2
  simp at d0 d1 d2
  have hff : Fr No w ((w.alloc (.cells #[.string k, .slice A n c, .bool g] 117)).alloc (.cells #[.string k, .slice A n c, .bool g] 117)) := ((Fr.refl No w).alloc _).alloc _
  refine bodyPost_ret (v := .tuple #[.agg #[.string k, .slice A n c, .bool g], .bool (wfind key ws).isSome]) (by simp [results, Tryz.results116, go_sem, d0, d1, d2]) rfl ⟨⟨k, A, n, c, g, rfl, fun y hy' => ?_⟩, hff⟩
  obtain ⟨e1, e2, e3, e4, e5⟩ := H.out.2.1 y hy'
  exact ⟨e1, e2, e3, e4, e5.fr0 hff⟩
theorem tx_own_nil (key : ByteArray) (w : World) : Calls Tryz.prog 116 #[.pointer none, .string key] w fun e w' => OwnIs w' No e none ∧ Fr No w w' := by
  go_enter Tryz.func116, Tryz.ntmps116
  go_wp2
  have hb := heap_alloc_new w (.cells #[.string ⟨#[]⟩, .slice none 0 0, .bool false] 117)
  have d0 := blk_cell hb 0
  have d1 := blk_cell hb 1
  have d2 := blk_cell hb 2
  simp at d0 d1 d2
  exact bodyPost_ret (v := .tuple #[.agg #[.string ⟨#[]⟩, .slice none 0 0, .bool false], .bool false]) (by simp [results, Tryz.results116, go_sem, d0, d1, d2]) rfl ⟨⟨_, _, _, _, _, rfl, fun y h => by cases h⟩, (Fr.refl No w).alloc _⟩
end Go.Proofs.YtlmhphejgahfbaaGreatDoor
/- 'slices.Sorted(maps.Keys(m))' of a map of writes. -/
set_option linter.unusedVariables false
set_option linter.unusedSimpArgs false
namespace Go.Proofs.YtlmhphejgahfbaaGreatDoor
open Go.RowKit Go.Maps Go.Sort Go.Shelf Go.WideElems Go.WideShapes

set_option maxHeartbeats 1000000 in
/-- maps.Keys, and slices.Sorted of what it handed back. -/
theorem keysW_ok (b : Nat) (l : List (ByteArray × Value)) (ks : List ByteArray) (w : World) (h : MapIs w b l) (hr : Rising ks) (hks : ∀ k, look k l = none ↔ k ∉ ks) (hs : ∀ k ∈ ks, k.size ≤ maxLen) (hl : ks.length ≤ 1000000000) :
    (Calls Tryz.prog 139 #[.map (some b)] w fun e w' => e = .returned (.func (.func 184) #[] #[.pointer (some ⟨w.heap.size, 0, none⟩)]) ∧ w' = w.alloc (.cells #[.map (some b)] 171)) ∧
    Calls Tryz.prog 138 #[.func (.func 184) #[] #[.pointer (some ⟨w.heap.size, 0, none⟩)]] (w.alloc (.cells #[.map (some b)] 171)) fun e w' =>
      ∃ A c, e = .returned (.slice A ks.length c) ∧ Ow Ty.str 9 w' (fun i => w.heap.size ≤ i) (.slice A ks.length c) ks ∧ Fr No w w' := by
  have hp := keys_perm hr h.nodup hks
  have hlen : l.length = ks.length := by simpa using hp.length_eq
  have hsl : ∀ p ∈ l, p.1.size ≤ maxLen := fun p hp' => by
    refine hs p.1 ?_
    rcases Classical.em (p.1 ∈ ks) with hm | hm
    · exact hm
    · exact absurd (List.mem_map.2 ⟨p, hp', rfl⟩) (look_none_iff.1 ((hks p.1).2 hm))
  obtain ⟨D0, hown, hperm, hsz⟩ := h.owns (P := Tryz.prog) Tryz.underlying9 hsl (by unfold maxLen; omega)
  have hbl := hown.lt
  have hmax : Maps.size D0 ≤ maxLen := by rw [hsz]; unfold maxLen; omega
  refine ⟨callsIn_wide.1 (AnyZ.keys_in Tryz.keys139 Fence.wide 5 trivial rfl (some b) w), ?_⟩
  have hseq : SeqGives Fence.wide 2 Tryz.prog 184 #[.pointer (some ⟨w.heap.size, 0, none⟩)] encStr (fun ss => ss.Perm (strKeys D0)) (Maps.size D0) (w.alloc (.cells #[.map (some b)] 171)) :=
    AnyZ.keys_gives (ρ := Tryz.keys139_ren) { Tryz.keys139 with } Fence.wide _ trivial rfl (by omega) w.heap.size b l.length D0 _ (by simp) (by simp) (by
      obtain ⟨es, clock, hb, Ft, hs, hD⟩ := hown
      exact ⟨es, clock, (Below.heap_alloc _ _ b hbl).trans hb, Ft, hs, hD⟩)
  have hsorts : ∀ m, AnyZ.SortsIn Tryz.prog Tryz.sorted138_ren Fence.wide m := fun m =>
    ⟨fun blk off cap ss W hH hblk hsz => callsIn_wide.2 (AnyM.slices_Sort_string Tryz.sort183 blk off cap ss W hH hblk hsz), fun p cap W => callsIn_wide.2 (AnyM.slices_Sort_string_none Tryz.sort183 p cap W)⟩
  have hc := callsIn_wide.1 (AnyZ.sorted_in Tryz.sorted138 Fence.wide 5 trivial trivial trivial trivial rfl (by omega) (hsorts _) (enters_of Tryz.func183 (by kernel_rfl) rfl)
    184 #[.pointer (some ⟨w.heap.size, 0, none⟩)] trivial (enters_of Tryz.func184 (by kernel_rfl) rfl) _ _ hmax (by rw [hsz]; omega) _ hseq)
  refine hc.mono ?_
  rintro e w' ⟨v, ss, rfl, hS, hrow, hnil, hb⟩
  have hS2 : ss.Perm (ks.map fun k => k.data.toList) := (hS.trans hperm).trans hp
  rw [rising_sorted hr hS2] at hrow
  have hsl2 : ss.length = ks.length := by simpa using hS2.length_eq
  rw [hsl2] at hrow
  have hO : Ow Ty.str 9 w' (fun i => w.heap.size ≤ i) v ks := by
    refine ⟨ks.map Value.string, ⟨hrow.1, hrow.2.imp id ?_⟩, ?_, fun k hk => by have := (hrow.lt k hk).1; simp at this; omega⟩
    · rintro ⟨g, cap, cur, h1, h2, h3⟩; exact ⟨g, cap, cur, h1, Nat.zero_le _, h3⟩
    · clear hrow hnil hS2 hp hlen hks hr hs hl hsl2
      induction ks with
      | nil => rfl
      | cons k ks ih => exact ⟨[.string k], ks.map Value.string, rfl, rfl, ih⟩
  obtain ⟨A, c, rfl, _, _⟩ := hO.slice
  exact ⟨A, c, rfl, hO, ((Fr.refl No w).alloc _).trans ((Fr.below hb).mono fun _ _ f => f.elim)⟩
end Go.Proofs.YtlmhphejgahfbaaGreatDoor
/- Layer 13 (store): Scan. -/
set_option linter.unusedVariables false
set_option linter.unusedSimpArgs false
namespace Go.Proofs.YtlmhphejgahfbaaGreatDoor
open Go.RowKit

theorem info_item : (Tryz.prog.info? 131).map (fun i => (i.zero, i.size, i.bytes)) = some (some (.agg #[.string ⟨#[]⟩, .slice none 0 0]), 2, 40) := by kernel_rfl
theorem str_at {w : World} {F : Nat → Prop} {A : Option Addr} {ks : List ByteArray} (h : Rd Ty.str w F A ks) {i : Nat} (hi : i < ks.length) : ∃ ad, A = some ad ∧ w.cell? (ad.add i) = some (.string ks[i]) := by
  obtain ⟨ad, c, e, hk, e0, _⟩ := h.get' hi (by decide)
  obtain rfl : c = _ := hk
  have := e0 _ rfl
  rw [show Ty.str.sz = 1 from rfl, Nat.mul_one] at this
  exact ⟨ad, e, this⟩

theorem size_isEmpty (b : ByteArray) : b.toList.isEmpty = decide (b.size = 0) := by
  have h : b.size = b.toList.length := by rw [toList_data, Array.length_toList]; rfl
  rw [h]
  cases b.toList <;> simp

/-- What the loop holds at a round's head: k keys were seen. -/
structure ScanInv (w w1 : World) (s : Sto) (a : Int) (lo hi : ByteArray) (most : Int) (k n : Nat) (v : Value) (wr : World) : Prop where
  le : k ≤ s.kc.length
  len : n = ((s.kc.take k).filterMap (Sto.sel a lo hi)).length
  own : Ow tItem 131 wr (fun i => w1.heap.size ≤ i) v ((s.kc.take k).filterMap (Sto.sel a lo hi))
  most : (((s.kc.take k).filterMap (Sto.sel a lo hi)).length : Int) ≤ max most 0
  fr : Fr No w1 wr

theorem ScanInv.skip {w w1 : World} {s : Sto} {a : Int} {lo hi : ByteArray} {most : Int} {k n : Nat} {v : Value} {wr wr' : World} (I : ScanInv w w1 s a lo hi most k n v wr) {q : ByteArray × Chn} (hk : k < s.kc.length)
    (hs : (s.kc.take (k + 1)).filterMap (Sto.sel a lo hi) = (s.kc.take k).filterMap (Sto.sel a lo hi) ++ (Sto.sel a lo hi q).toList) (hn : Sto.sel a lo hi q = none) (f : Fr No wr wr') : ScanInv w w1 s a lo hi most (k + 1) n v wr' := by
  rw [hn] at hs
  have e : (s.kc.take (k + 1)).filterMap (Sto.sel a lo hi) = (s.kc.take k).filterMap (Sto.sel a lo hi) := by simpa using hs
  exact ⟨hk, by rw [e]; exact I.len, by rw [e]; exact I.own.fr0 f, by rw [e]; exact I.most, I.fr.trans (f.mono fun _ _ f => f.elim)⟩

theorem ScanInv.add {w w1 : World} {s : Sto} {a : Int} {lo hi : ByteArray} {most : Int} {k n : Nat} {v : Value} {wr w' : World} (I : ScanInv w w1 s a lo hi most k n v wr) {q : ByteArray × Chn} {x : Item} {A : Option Addr} {c : Nat} (hk : k < s.kc.length)
    (hs : (s.kc.take (k + 1)).filterMap (Sto.sel a lo hi) = (s.kc.take k).filterMap (Sto.sel a lo hi) ++ (Sto.sel a lo hi q).toList) (hn : Sto.sel a lo hi q = some x) (hm : (n : Int) < most) (hf : Fr No w1 w')
    (ho : Ow tItem 131 w' (fun i => w1.heap.size ≤ i) (.slice A (n + 1) c) ((s.kc.take k).filterMap (Sto.sel a lo hi) ++ [x])) : ScanInv w w1 s a lo hi most (k + 1) (n + 1) (.slice A (n + 1) c) w' := by
  rw [hn] at hs
  have e : (s.kc.take (k + 1)).filterMap (Sto.sel a lo hi) = (s.kc.take k).filterMap (Sto.sel a lo hi) ++ [x] := hs
  have hl := I.len
  exact ⟨hk, by rw [e]; simp; omega, by rw [e]; exact ho, by rw [e]; simp; omega, hf⟩

set_option maxHeartbeats 2000000 in
theorem store_scan {w : World} {F : Nat → Prop} {sb : Nat} {s : Sto} {m : Nat} (h : StoreAt w F sb s) (hs : s.Small m) (hm : m ≤ 100000000) (a : Int) (lo hi : ByteArray) (most : Int) :
    Calls Tryz.prog 120 #[.pointer (some ⟨sb, 0, none⟩), .int .i64 a, .string lo, .string hi, .int .i64 most] w fun e w' =>
      ∃ A c, e = .returned (.slice A (s.scan a lo hi most).length c) ∧ Ow tItem 131 w' (fun i => w.heap.size ≤ i) (.slice A (s.scan a lo hi most).length c) (s.scan a lo hi most) ∧ Fr No w w' := by
  have hk := store_keys h hs hm
  have hkl : (s.kc.length : Int) ≤ 100000000 := by have := hs.keys; omega
  have HH := Lib.hid (And.intro hk (And.intro h (And.intro hs hm)))
  clear hk h hs hm
  have fin : ∀ (w1 wr : World) (k n : Nat) (A2 : Option Addr) (c2 : Nat), Fr No w w1 → ScanInv w w1 s a lo hi most k n (.slice A2 n c2) wr → s.scan a lo hi most = (s.kc.take k).filterMap (Sto.sel a lo hi) →
      ∃ A c, Ending.returned (.slice A2 n c2) = .returned (.slice A (s.scan a lo hi most).length c) ∧ Ow tItem 131 wr (fun i => w.heap.size ≤ i) (.slice A (s.scan a lo hi most).length c) (s.scan a lo hi most) ∧ Fr No w wr := by
    intro w1 wr k n A2 c2 hf I e
    have := I.own
    rw [e]
    obtain rfl := I.len
    exact ⟨A2, c2, rfl, this.mono (fun i hi _ => by have := hf.size; omega), hf.trans (I.fr.mono fun _ _ f => f.elim)⟩
  have FIN := Lib.hid fin
  clear fin
  go_enter Tryz.func120, Tryz.ntmps120
  go_wp2_with (go_at_call 150; refine HH.out.1.mono ?_; rintro e w1 ⟨A, c, rfl, hr, hc, hf1⟩; have HR := Lib.hid (And.intro hr hf1); clear hr hf1)
  go_loopw [11, 19] (fun v i wr => ∃ (k n : Nat) (A2 : Option Addr) (c2 : Nat), v = .slice A2 n c2 ∧ i = .int .i64 k ∧ Hid (ScanInv w w1 s a lo hi most k n (.slice A2 n c2) wr)) (fun _ i _ => s.kc.length - (intOf i).toNat)
  case atStart => exact ⟨0, 0, none, 0, rfl, rfl, ⟨Nat.zero_le _, rfl, Ow.nil, by simp; omega, Fr.refl _ _⟩⟩
  case round =>
    obtain ⟨k, n, A2, c2, rfl, rfl, I⟩ := hrel
    by_cases hlt : k < s.kc.length
    · obtain ⟨ad, rfl, x0⟩ := str_at (HR.out.1.fr0 I.out.fr) (i := k) (by simpa using hlt)
      have hwr : Fr No w wr := HR.out.2.trans (I.out.fr.mono fun _ _ f => f.elim)
      have hget := store_get (HH.out.2.1.fr0 hwr) HH.out.2.2.1 HH.out.2.2.2 a s.kc[k].1
      have hlook : s.get a s.kc[k].1 = s.kc[k].2.get a := sto_get_some (look_of_mem HH.out.2.1.rising.nodup (List.getElem_mem hlt)) a
      rw [hlook] at hget
      have hsel := Sto.sel_step (a := a) (lo := lo) (hi := hi) hlt
      have hstop2 := Sto.scan_stop2 (a := a) (lo := lo) (hi := hi) (most := most) HH.out.2.1.rising hlt
      rw [List.getElem_map] at x0
      obtain ⟨q, hq⟩ : ∃ q, s.kc[k] = q := ⟨_, rfl⟩
      rw [hq] at x0 hget hsel hstop2
      have HG := Lib.hid (And.intro hget (And.intro hsel (And.intro hstop2 hwr)))
      clear hget hsel hstop2 hlook hq hwr
      have hk0 : (0 : Int) ≤ (k : Int) := Int.natCast_nonneg _
      have hk1 : (k : Int) < (s.kc.length : Int) := by omega
      by_cases h1 : most ≤ (n : Int)
      · go_wp2
        go_ret
        exact FIN.out w1 wr k n A2 c2 HR.out.2 I.out (Sto.scan_stop1 (by rw [← I.out.len]; exact h1) I.out.most)
      · cases h2 : hi.toList.isEmpty <;> cases h3 : Op.bytesLess q.1.toList hi.toList
        case false.false =>
          go_wp2
          go_ret
          exact FIN.out w1 wr k n A2 c2 HR.out.2 I.out (HG.out.2.2.1 (by rw [size_isEmpty] at h2; simpa using h2) h3 I.out.most)
        all_goals
          have hpass : Hid (hi.size = 0 ∨ kl q.1 hi = true) := by first | exact .inr h3 | exact .inl (by rw [size_isEmpty] at h2; simpa using h2)
          cases hr : q.2.get a with
          | none =>
            have hsel : Sto.sel a lo hi q = none := by unfold Sto.sel; rw [hr]
            have HS := Lib.hid hsel
            clear hsel
            rw [hr] at HG
            clear hr
            go_wp2_with (go_at_call 117; refine HG.out.1.mono ?_; rintro e w2 ⟨⟨A1, c1, rfl, ho1⟩, hf2⟩; have HO1 := Lib.hid ho1; clear ho1)
            go_roundw
            case rel => exact ⟨k + 1, n, A2, c2, rfl, by go_num, I.out.skip hlt HG.out.2.1 HS.out hf2⟩
            case measure => simp [intOf]; omega
          | some row =>
            rw [hr] at HG
            cases h4 : Op.bytesLess q.1.toList lo.toList
            · have hsel : Sto.sel a lo hi q = some (q.1, row) := by unfold Sto.sel; rw [hr]; exact if_pos ⟨h4, hpass.out⟩
              have HS := Lib.hid hsel
              clear hsel hr
              go_wp2_with (first
                | (go_at_call 117; refine HG.out.1.mono ?_; rintro e w2 ⟨⟨A1, c1, rfl, ho1⟩, hf2⟩; have HO1 := Lib.hid ho1; clear ho1)
                | (at_builtin; refine ow_append tItem (ys := [(q.1, row)]) ((I.out.own.fr0 hf2).fr0 ((Fr.refl No w2).alloc _)) _ _ _ 40 rfl rfl Tryz.underlying128 info_item rfl (by decide) (by decide) rfl rfl rfl
                    (Row.single (tItem_mk (A := A1) (c := c1) HO1.out.rd.2.1 ((HO1.out.rd.2.2.fr0 ((Fr.refl No w2).alloc _)).mono fun i hi hl => ?qf))) (At.block (heap_alloc_new _ _)) ?ql ?_
                   case qf => exact ⟨by have := I.out.fr.size; have hi' : wr.heap.size ≤ i := hi; omega, fun he => by have := (I.out.own.own he).2; have hi' : wr.heap.size ≤ i := hi; omega⟩
                   case ql => have := I.out.len; have := List.length_filterMap_le (Sto.sel a lo hi) (s.kc.take k); have := List.length_take_le k s.kc; simp; omega
                   intro A3 c3 w3 hown3 hg3 hat3
                   have hw3 : Fr No w1 w3 := (((I.out.fr.trans (hf2.mono fun _ _ f => f.elim)).alloc _).grown hg3 fun i hi => .inr (I.out.own.own hi).1)
                   have hown4 : Ow tItem 131 w3 (fun i => w1.heap.size ≤ i) (.slice A3 (n + 1) c3) ((s.kc.take k).filterMap (Sto.sel a lo hi) ++ [(q.1, row)]) := by
                     have h5 := hown3
                     rw [← I.out.len] at h5
                     exact h5.mono fun i hi _ => by have := I.out.fr.size; have := hf2.size; simp at hi; omega
                   have hlen3 : ((s.kc.take k).filterMap (Sto.sel a lo hi)).length + [(q.1, row)].length = n + 1 := by rw [← I.out.len]; rfl
                   rw [hlen3]
                   have H3 := Lib.hid (And.intro hw3 hown4)
                   clear hw3 hown4 hown3 hg3 hat3 hlen3))
              go_roundw
              case rel => exact ⟨k + 1, n + 1, A3, c3, rfl, by go_num, I.out.add hlt HG.out.2.1 HS.out (by omega) H3.out.1 H3.out.2⟩
              case measure => simp [intOf]; omega
            · have hsel : Sto.sel a lo hi q = none := by unfold Sto.sel; rw [hr]; exact if_neg (by show ¬ (kl q.1 lo = false ∧ _); rw [show kl q.1 lo = true from h4]; simp)
              have HS := Lib.hid hsel
              clear hsel hr
              go_wp2_with (go_at_call 117; refine HG.out.1.mono ?_; rintro e w2 ⟨⟨A1, c1, rfl, ho1⟩, hf2⟩; have HO1 := Lib.hid ho1; clear ho1)
              go_roundw
              case rel => exact ⟨k + 1, n, A2, c2, rfl, by go_num, I.out.skip hlt HG.out.2.1 HS.out hf2⟩
              case measure => simp [intOf]; omega
    · obtain rfl : k = s.kc.length := by have := I.out.le; omega
      go_wp2
      go_ret
      have e := I.out.most
      rw [List.take_length] at e
      exact FIN.out w1 wr _ n A2 c2 HR.out.2 I.out (by rw [List.take_length]; exact Sto.scan_end e)
end Go.Proofs.YtlmhphejgahfbaaGreatDoor
