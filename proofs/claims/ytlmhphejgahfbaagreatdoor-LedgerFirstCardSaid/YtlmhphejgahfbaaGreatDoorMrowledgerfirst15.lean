/- Texts of this claim, one behind the other: Store2, Tx, Tx2, Tx3. -/
import Derived.Test.YtlmhphejgahfbaaGreatDoorMrowledgerfirst14
import Derived.Test.YtlmhphejgahfbaaGreatDoorMrowledgerfirst3
import Derived.Test.YtlmhphejgahfbaaGreatDoorMrowledgerfirst2
import Derived.Deep.RegionLaw
import Derived.BigRegion
/- Layer 13 (store): the functions that only read. -/
set_option linter.unusedVariables false
set_option linter.unusedSimpArgs false
namespace Go.Proofs.YtlmhphejgahfbaaGreatDoor
open Go.RowKit

theorem store_now_nil (w : World) : Calls Tryz.prog 45 #[.pointer none] w fun e w' => e = .returned (.int .i64 0) ∧ w' = w := by
  go_enter Tryz.func45, Tryz.ntmps45
  go_wp2
  go_ret
  exact ⟨rfl, rfl⟩
theorem store_now {w : World} {F : Nat → Prop} {sb : Nat} {s : Sto} (h : StoreAt w F sb s) : Calls Tryz.prog 45 #[.pointer (some ⟨sb, 0, none⟩)] w fun e w' => e = .returned (.int .i64 s.now) ∧ w' = w := by
  obtain ⟨h1, mb, l, G, h2, h3, h4, h5, h6, h7⟩ := h
  have c0 := blk_cell h4 1
  clear h1 h2 h3 h4 h5 h6 h7
  simp at c0
  go_enter Tryz.func45, Tryz.ntmps45
  go_wp2
  go_ret
  exact ⟨rfl, rfl⟩

theorem zero_chain (w : World) : (zeroValue 224).run Tryz.prog w = .ok (.pointer none) w := by kernel_rfl
/-- A key's chain, or nil. -/
def ChainOf (w : World) (F : Nat → Prop) (s : Sto) (k : ByteArray) (v : Value) : Prop :=
  (look k s.kc = none ∧ v = .pointer none) ∨ ∃ c b G, look k s.kc = some c ∧ v = .pointer (some ⟨b, 0, none⟩) ∧ ChainAt w G b c ∧ ∀ i, G i → F i
theorem store_of_nil (k : ByteArray) (w : World) : Calls Tryz.prog 172 #[.pointer none, .string k] w fun e w' => e = .returned (.pointer none) ∧ w' = w := by
  go_enter Tryz.func172, Tryz.ntmps172
  go_wp2
  go_ret
  exact ⟨rfl, rfl⟩
theorem store_of {w : World} {F : Nat → Prop} {sb : Nat} {s : Sto} (h : StoreAt w F sb s) (k : ByteArray) :
    Calls Tryz.prog 172 #[.pointer (some ⟨sb, 0, none⟩), .string k] w fun e w' => ∃ v, e = .returned v ∧ ChainOf w F s k v ∧ w' = w := by
  obtain ⟨h1, mb, l, G, h2, h3, h4, h5, h6, h7⟩ := h
  have c0 := blk_cell h4 0
  have hrun := (run_map_look (P := Tryz.prog) h5 157 _ _ Tryz.underlying157 Tryz.underlying9 _ (zero_chain w) k).1
  have hv : ChainOf w F s k ((look k l).getD (.pointer none)) := by
    cases hl : look k l with
    | none => exact .inl ⟨(h6.keys k).1 hl, rfl⟩
    | some v =>
      cases hc : look k s.kc with
      | none => rw [(h6.keys k).2 hc] at hl; cases hl
      | some c =>
        obtain ⟨b, rfl, hb⟩ := h6.at_ k v c hl hc
        exact .inr ⟨c, b, G k, hc, rfl, hb, fun i hi => (h7 k i hi).1⟩
  have HV := Lib.hid hv
  clear h1 h2 h3 h4 h5 h6 h7 hv
  simp at c0
  generalize (look k l).getD (.pointer none) = v at *
  go_enter Tryz.func172, Tryz.ntmps172
  go_wp2
  go_ret
  exact ⟨v, rfl, HV.out, rfl⟩

theorem get_empty (a : Int) : Chn.empty.get a = none := rfl
theorem sto_get_none {s : Sto} {k : ByteArray} (h : look k s.kc = none) (a : Int) : s.get a k = none := by unfold Sto.get Sto.of; rw [h]; rfl
theorem sto_get_some {s : Sto} {k : ByteArray} {c : Chn} (h : look k s.kc = some c) (a : Int) : s.get a k = c.get a := by unfold Sto.get Sto.of; rw [h]; rfl
theorem sto_last_none {s : Sto} {k : ByteArray} (h : look k s.kc = none) : s.last k = 0 := by unfold Sto.last Sto.of; rw [h]; rfl
theorem sto_last_some {s : Sto} {k : ByteArray} {c : Chn} (h : look k s.kc = some c) : s.last k = c.last := by unfold Sto.last Sto.of; rw [h]; rfl

theorem store_get_nil (a : Int) (k : ByteArray) (w : World) : Calls Tryz.prog 117 #[.pointer none, .int .i64 a, .string k] w fun e w' => RowOk w w' e none ∧ Fr No w w' := by
  go_enter Tryz.func117, Tryz.ntmps117
  go_wp2_with (first
    | (go_at_call 172; refine (store_of_nil _ _).mono ?_; rintro e w' ⟨rfl, rfl⟩)
    | (go_at_call 173; refine (chain_get_nil _ _).mono ?_; rintro e w' ⟨⟨A1, c1, rfl, ho⟩, hf⟩))
  go_ret2
  exact ⟨⟨A1, c1, rfl, ho⟩, hf⟩
theorem chain_get_of {w : World} {F : Nat → Prop} {s : Sto} {m : Nat} {k : ByteArray} {v : Value} (hv : ChainOf w F s k v) (hs : s.Small m) (hm : m ≤ 100000000) (a : Int) :
    Calls Tryz.prog 173 #[v, .int .i64 a] w fun e w' => RowOk w w' e (s.get a k) ∧ Fr No w w' := by
  rcases hv with ⟨hn, rfl⟩ | ⟨c, b, G, hc, rfl, hb, _⟩
  · rw [sto_get_none hn]; exact chain_get_nil a w
  · rw [sto_get_some hc]
    have h3 : c.l.length ≤ m ∧ c.last ≤ s.now ∧ ∀ v ∈ c.l, v.row.length ≤ 4000 := hs.chains (k, c) (look_mem hc)
    exact chain_get hb (by have := h3.1; omega) (fun v hv => by have := h3.2.2 v hv; omega)
theorem store_get {w : World} {F : Nat → Prop} {sb : Nat} {s : Sto} {m : Nat} (h : StoreAt w F sb s) (hs : s.Small m) (hm : m ≤ 100000000) (a : Int) (k : ByteArray) :
    Calls Tryz.prog 117 #[.pointer (some ⟨sb, 0, none⟩), .int .i64 a, .string k] w fun e w' => RowOk w w' e (s.get a k) ∧ Fr No w w' := by
  have hof := Lib.hid (store_of h k)
  have HS := Lib.hid (And.intro hs hm)
  clear hs hm
  go_enter Tryz.func117, Tryz.ntmps117
  go_wp2_with (first
    | (go_at_call 172; refine hof.out.mono ?_; rintro e w' ⟨v, rfl, hv, rfl⟩; have HV := Lib.hid hv; clear hv)
    | (go_at_call 173; refine (chain_get_of HV.out HS.out.1 HS.out.2 _).mono ?_; rintro e w' ⟨⟨A1, c1, rfl, ho⟩, hf⟩))
  go_ret2
  exact ⟨⟨A1, c1, rfl, ho⟩, hf⟩
theorem store_last_nil (k : ByteArray) (w : World) : Calls Tryz.prog 136 #[.pointer none, .string k] w fun e w' => e = .returned (.int .i64 0) ∧ w' = w := by
  go_enter Tryz.func136, Tryz.ntmps136
  go_wp2_with (first
    | (go_at_call 172; refine (store_of_nil _ _).mono ?_; rintro e w' ⟨rfl, rfl⟩)
    | (go_at_call 181; refine (chain_last_nil _).mono ?_; rintro e w' ⟨rfl, rfl⟩))
  go_ret
  exact ⟨rfl, rfl⟩
theorem chain_last_of {w : World} {F : Nat → Prop} {s : Sto} {k : ByteArray} {v : Value} (hv : ChainOf w F s k v) :
    Calls Tryz.prog 181 #[v] w fun e w' => e = .returned (.int .i64 (s.last k)) ∧ w' = w := by
  rcases hv with ⟨hn, rfl⟩ | ⟨c, b, G, hc, rfl, hb, _⟩
  · rw [sto_last_none hn]; exact chain_last_nil w
  · rw [sto_last_some hc]; exact chain_last hb
theorem store_last {w : World} {F : Nat → Prop} {sb : Nat} {s : Sto} (h : StoreAt w F sb s) (k : ByteArray) :
    Calls Tryz.prog 136 #[.pointer (some ⟨sb, 0, none⟩), .string k] w fun e w' => e = .returned (.int .i64 (s.last k)) ∧ w' = w := by
  have hof := Lib.hid (store_of h k)
  go_enter Tryz.func136, Tryz.ntmps136
  go_wp2_with (first
    | (go_at_call 172; refine hof.out.mono ?_; rintro e w' ⟨v, rfl, hv, rfl⟩; have HV := Lib.hid hv; clear hv)
    | (go_at_call 181; refine (chain_last_of HV.out).mono ?_; rintro e w' ⟨rfl, rfl⟩))
  go_ret
  exact ⟨rfl, rfl⟩

theorem store_keys_nil (w : World) : Calls Tryz.prog 150 #[.pointer none] w fun e w' => e = .returned (.slice none 0 0) ∧ w' = w := by
  go_enter Tryz.func150, Tryz.ntmps150
  go_wp2
  go_ret
  exact ⟨rfl, rfl⟩
theorem store_keys {w : World} {F : Nat → Prop} {sb : Nat} {s : Sto} {m : Nat} (h : StoreAt w F sb s) (hs : s.Small m) (hm : m ≤ 100000000) :
    Calls Tryz.prog 150 #[.pointer (some ⟨sb, 0, none⟩)] w fun e w' => ∃ A c, e = .returned (.slice A s.kc.length c) ∧ Rd Ty.str w' (fun i => w.heap.size ≤ i) A (s.kc.map Prod.fst) ∧ s.kc.length ≤ c ∧ Fr No w w' := by
  obtain ⟨h1, mb, l, G, h2, h3, h4, h5, h6, h7⟩ := h
  have c0 := blk_cell h4 0
  have hc := keys_ok mb l (s.kc.map Prod.fst) w h5 h6.rising (fun k => by rw [h6.keys, look_none_iff]) (fun k hk' => by
    obtain ⟨p, hp, rfl⟩ := List.mem_map.1 hk'
    have := hs.ksz p hp
    unfold maxLen; omega) (by rw [List.length_map]; have := hs.keys; omega)
  have HC := Lib.hid hc
  clear h1 h2 h3 h4 h5 h6 h7 hc hs hm
  simp at c0
  go_enter Tryz.func150, Tryz.ntmps150
  go_wp2_with (first
    | (go_at_call 201; refine HC.out.1.mono ?_; rintro e w' ⟨rfl, rfl⟩)
    | (go_at_call 138; refine HC.out.2.mono ?_; rintro e w' ⟨A, c, rfl, ho, hf⟩))
  go_ret
  have hr := ho.rd
  rw [List.length_map] at hr
  exact ⟨A, c, rfl, hr.2.2, hr.2.1, hf⟩
end Go.Proofs.YtlmhphejgahfbaaGreatDoor
/- Layer 14 (tx): how a transaction lies in memory; New, Base, write. -/
set_option linter.unusedVariables false
set_option linter.unusedSimpArgs false
namespace Go.Proofs.YtlmhphejgahfbaaGreatDoor
open Go.RowKit

/-- A write as a value. -/
def WrIs (w : World) (F : Nat → Prop) (v : Value) (x : Wr) : Prop := ∃ A c, v = .agg #[.string x.key, .slice A x.row.length c, .bool x.gone] ∧ x.row.length ≤ c ∧ Rd Ty.u8 w F A x.row
theorem WrIs.stab {w w' : World} {F : Nat → Prop} {v : Value} {x : Wr} (h : WrIs w F v x) (k : ∀ k, F k → k < w.heap.size → w'.heap[k]? = w.heap[k]?) : WrIs w' F v x := by
  obtain ⟨A, c, e, h1, h2⟩ := h
  exact ⟨A, c, e, h1, h2.stab k⟩
theorem WrIs.mono {w : World} {F G : Nat → Prop} {v : Value} {x : Wr} (h : WrIs w F v x) (k : ∀ k, F k → k < w.heap.size → G k) : WrIs w G v x := by
  obtain ⟨A, c, e, h1, h2⟩ := h
  exact ⟨A, c, e, h1, h2.mono k⟩
/-- A map's values are the writes. -/
structure TxHeld (w : World) (F : Nat → Prop) (l : List (ByteArray × Value)) (ws : List Wr) : Prop where
  rising : Rising (ws.map Wr.key)
  none_ : ∀ k, wfind k ws = none → look k l = none
  some_ : ∀ k x, wfind k ws = some x → ∃ v, look k l = some v ∧ WrIs w F v x
section
variable {w w' : World} {F G : Nat → Prop} {l : List (ByteArray × Value)} {ws : List Wr}
theorem TxHeld.stab (h : TxHeld w F l ws) (k : ∀ k, F k → k < w.heap.size → w'.heap[k]? = w.heap[k]?) : TxHeld w' F l ws :=
  ⟨h.rising, h.none_, fun key x hx => by obtain ⟨v, h1, h2⟩ := h.some_ key x hx; exact ⟨v, h1, h2.stab k⟩⟩
theorem TxHeld.mono (h : TxHeld w F l ws) (k : ∀ k, F k → k < w.heap.size → G k) : TxHeld w G l ws :=
  ⟨h.rising, h.none_, fun key x hx => by obtain ⟨v, h1, h2⟩ := h.some_ key x hx; exact ⟨v, h1, h2.mono k⟩⟩
theorem TxHeld.look_iff (h : TxHeld w F l ws) (k : ByteArray) : look k l = none ↔ k ∉ ws.map Wr.key := by
  rw [← wfind_none]
  constructor
  · intro hl
    cases hx : wfind k ws with
    | none => rfl
    | some x => obtain ⟨v, h1, _⟩ := h.some_ k x hx; rw [hl] at h1; cases h1
  · exact h.none_ k
theorem TxHeld.len (h : TxHeld w F l ws) (hn : (l.map Prod.fst).Nodup) : l.length = ws.length := by
  have := (keys_perm h.rising hn h.look_iff).length_eq
  simpa using this
theorem TxHeld.put (h : TxHeld w F l ws) {v : Value} {x : Wr} (hx : WrIs w F v x) : TxHeld w F (lay x.key v l) (wput x ws) := by
  refine ⟨wput_rising h.rising, fun k hk => ?_, fun k y hy => ?_⟩
  · rw [wfind_wput h.rising] at hk
    rw [look_lay]
    split at hk
    · cases hk
    · rename_i e; rw [if_neg e]; exact h.none_ k hk
  · rw [wfind_wput h.rising] at hy
    rw [look_lay]
    split at hy
    · rename_i e; injection hy with hy; subst hy; rw [if_pos e]; exact ⟨v, rfl, hx⟩
    · rename_i e; rw [if_neg e]; exact h.some_ k y hy
end

/-- A transaction behind a pointer; F bounds all its blocks. -/
def TxAt (w : World) (F : Nat → Prop) (xb : Nat) (base : Int) (ws : List Wr) : Prop :=
  F xb ∧ ∃ mb l, F mb ∧ mb ≠ xb ∧ w.heap[xb]? = some (.cells #[.int .i64 base, .map (some mb)] 173 (0, 0)) ∧ MapIs w mb l ∧ TxHeld w (fun i => F i ∧ i ≠ xb ∧ i ≠ mb) l ws
section
variable {w w' : World} {F F' : Nat → Prop} {xb : Nat} {base : Int} {ws : List Wr}
theorem TxAt.stab (h : TxAt w F xb base ws) (k : ∀ k, F k → k < w.heap.size → w'.heap[k]? = w.heap[k]?) : TxAt w' F xb base ws := by
  obtain ⟨h1, mb, l, h2, h3, h4, h5, h6⟩ := h
  exact ⟨h1, mb, l, h2, h3, (k _ h1 (blk_lt h4)).trans h4, h5.stab (k _ h2 h5.lt), h6.stab fun i hi hl => k i hi.1 hl⟩
theorem TxAt.fr {S : Nat → Prop} (h : TxAt w F xb base ws) (f : Fr S w w') (hd : ∀ k, F k → ¬ S k) : TxAt w' F xb base ws := h.stab fun k hk hl => f.block k hl (hd k hk)
theorem TxAt.fr0 (h : TxAt w F xb base ws) (f : Fr No w w') : TxAt w' F xb base ws := h.stab fun k hk hl => f.block k hl (fun f => f)
theorem TxAt.mono (h : TxAt w F xb base ws) (k : ∀ k, F k → k < w.heap.size → F' k) : TxAt w F' xb base ws := by
  obtain ⟨h1, mb, l, h2, h3, h4, h5, h6⟩ := h
  exact ⟨k _ h1 (blk_lt h4), mb, l, k _ h2 h5.lt, h3, h4, h5, h6.mono fun i hi hl => ⟨k i hi.1 hl, hi.2⟩⟩
theorem TxAt.rising (h : TxAt w F xb base ws) : Rising (ws.map Wr.key) := by
  obtain ⟨h1, mb, l, h2, h3, h4, h5, h6⟩ := h
  exact h6.rising
end

theorem zero_wr (w : World) : (zeroValue 117).run Tryz.prog w = .ok (.agg #[.string ⟨#[]⟩, .slice none 0 0, .bool false]) w := by kernel_rfl

theorem tx_new (base : Int) (w : World) : Calls Tryz.prog 44 #[.int .i64 base] w fun e w' => ∃ b, e = .returned (.pointer (some ⟨b, 0, none⟩)) ∧ TxAt w' (fun k => w.heap.size ≤ k) b base [] ∧ Fr No w w' := by
  have hmm := @run_makeMap Tryz.prog
  go_enter Tryz.func44, Tryz.ntmps44
  go_wp2
  go_ret
  refine ⟨w.heap.size + 1, rfl, ⟨by omega, w.heap.size, [], Nat.le_refl _, by omega, ?_, ?_, ⟨List.Pairwise.nil, fun _ _ => rfl, fun k x h => by cases h⟩⟩, ((Fr.refl No w).alloc _).alloc _⟩
  · exact blk_two2 w _ _
  · exact (MapIs.new w).stab (Below.heap_alloc _ _ _ (by simp))
theorem tx_base_nil (w : World) : Calls Tryz.prog 152 #[.pointer none] w fun e w' => e = .returned (.int .i64 0) ∧ w' = w := by
  go_enter Tryz.func152, Tryz.ntmps152
  go_wp2
  go_ret
  exact ⟨rfl, rfl⟩
theorem tx_base {w : World} {F : Nat → Prop} {xb : Nat} {base : Int} {ws : List Wr} (h : TxAt w F xb base ws) : Calls Tryz.prog 152 #[.pointer (some ⟨xb, 0, none⟩)] w fun e w' => e = .returned (.int .i64 base) ∧ w' = w := by
  obtain ⟨h1, mb, l, h2, h3, h4, h5, h6⟩ := h
  have c0 := blk_cell h4 0
  clear h1 h2 h3 h4 h5 h6
  simp at c0
  go_enter Tryz.func152, Tryz.ntmps152
  go_wp2
  go_ret
  exact ⟨rfl, rfl⟩
theorem tx_write_nil (v : Value) (k : ByteArray) (A : Option Addr) (n c : Nat) (g : Bool) (w : World) (hv : v = .agg #[.string k, .slice A n c, .bool g]) : Calls Tryz.prog 99 #[.pointer none, v] w fun e w' => e = .returned (.int .i64 5) ∧ Fr No w w' := by
  subst hv
  go_enter Tryz.func99, Tryz.ntmps99
  go_wp2
  go_ret
  exact ⟨rfl, (Fr.refl No w).alloc _⟩
end Go.Proofs.YtlmhphejgahfbaaGreatDoor
/- Layer 14 (tx): write, Put, Del. -/
set_option linter.unusedVariables false
set_option linter.unusedSimpArgs false
namespace Go.Proofs.YtlmhphejgahfbaaGreatDoor
open Go.RowKit

theorem tx_put_end {w W6 w7 : World} {F R : Nat → Prop} {xb mb : Nat} {base : Int} {ws : List Wr} {l : List (ByteArray × Value)} {A : Option Addr} {c : Nat} {x : Wr} (h1 : F xb) (h2 : F mb) (h3 : mb ≠ xb) (hx : w.heap[xb]? = some (.cells #[.int .i64 base, .map (some mb)] 173 (0, 0))) (h6 : TxHeld w (fun i => F i ∧ i ≠ xb ∧ i ≠ mb) l ws)
    (hr : Rd Ty.u8 w R A x.row) (hd : ∀ i, R i → ¬ F i) (hc : x.row.length ≤ c) (hf : Fr No w W6) (hM : MapIs w7 mb (lay x.key (.agg #[.string x.key, .slice A x.row.length c, .bool x.gone]) l)) (hF : Fr (fun i => i = mb) W6.drew w7) :
    TxAt w7 (fun i => F i ∨ R i) xb base (wput x ws) ∧ Fr F w w7 := by
  have hfw : Fr (fun i => i = mb) w w7 := ((hf.drew).mono fun _ _ f => f.elim).trans (hF.mono fun i _ e => .inl e)
  refine ⟨⟨.inl h1, mb, _, .inl h2, h3, hfw.blk hx (fun e => h3 e.symm), hM, ?_⟩, hfw.mono fun i _ e => by rw [e]; exact h2⟩
  have h7 : TxHeld w7 (fun i => (F i ∨ R i) ∧ i ≠ xb ∧ i ≠ mb) l ws := (h6.stab fun k hk hl => hfw.block k hl (fun e => hk.2.2 e)).mono fun i hi _ => ⟨.inl hi.1, hi.2⟩
  refine h7.put ⟨A, c, rfl, hc, (hr.fr hfw fun i hi e => hd i hi (by rw [e]; exact h2)).mono fun i hi _ => ⟨.inr hi, fun e => hd i hi (by rw [e]; exact h1), fun e => hd i hi (by rw [e]; exact h2)⟩⟩

set_option maxHeartbeats 1000000 in
set_option maxRecDepth 100000 in
theorem tx_write_some {w : World} {F R : Nat → Prop} {xb : Nat} {base : Int} {ws : List Wr} {A : Option Addr} {c : Nat} {x y : Wr} (h : TxAt w F xb base ws) (hr : Rd Ty.u8 w R A x.row) (hd : ∀ i, R i → ¬ F i) (hf : wfind x.key ws = some y) (hc : x.row.length ≤ c) :
    Calls Tryz.prog 99 #[.pointer (some ⟨xb, 0, none⟩), .agg #[.string x.key, .slice A x.row.length c, .bool x.gone]] w fun e w' => e = .returned (.int .i64 0) ∧ TxAt w' (fun i => F i ∨ R i) xb base (wput x ws) ∧ Fr F w w' := by
  obtain ⟨h1, mb, l, h2, h3, h4, h5, h6⟩ := h
  obtain ⟨v0, hlook, A0, c0, rfl, _, _⟩ := h6.some_ _ _ hf
  obtain ⟨W, hW⟩ : ∃ W, W = w.alloc (.cells #[.string x.key, .slice A x.row.length c, .bool x.gone] 117) := ⟨_, rfl⟩
  have hfW : Fr No w W := by rw [hW]; exact (Fr.refl No w).alloc _
  have hbW : W.heap[w.heap.size]? = some (.cells #[.string x.key, .slice A x.row.length c, .bool x.gone] 117 (0, 0)) := by rw [hW]; exact heap_alloc_new w _
  have hxW := hfW.blk h4 (fun f => f)
  have a1 := blk_cell hxW 1
  have b0 := blk_cell hbW 0
  have b1 := blk_cell hbW 1
  have b2 := blk_cell hbW 2
  simp at a1 b0 b1 b2
  have hmW : ∀ w', w'.heap[mb]? = W.heap[mb]? → MapIs w' mb l := fun w' hw => h5.stab (hw.trans (hfW.block _ h5.lt (fun f => f)))
  have hrun : ∀ w', w'.heap[mb]? = W.heap[mb]? → (Instr.lookup 171 (.map (some mb)) (.string x.key) true).run Tryz.prog w' = .ok (.tuple #[.agg #[.string y.key, .slice A0 y.row.length c0, .bool y.gone], .bool true]) w' := fun w' hw => by
    have := (run_map_look (P := Tryz.prog) (hmW w' hw) 171 _ _ Tryz.underlying171 Tryz.underlying9 _ (zero_wr w') x.key).2
    rw [hlook] at this
    exact this
  have hmlt : mb < W.heap.size := by have := h5.lt; have := hfW.size; omega
  have r2 : (Instr.lookup 171 (.map (some mb)) (.string x.key) true).run Tryz.prog W.drew = .ok (.tuple #[.agg #[.string y.key, .slice A0 y.row.length c0, .bool y.gone], .bool true]) W.drew := hrun _ rfl
  have r3 : ∀ o, (Instr.lookup 171 (.map (some mb)) (.string x.key) true).run Tryz.prog (W.alloc o).drew = .ok (.tuple #[.agg #[.string y.key, .slice A0 y.row.length c0, .bool y.gone], .bool true]) (W.alloc o).drew := fun o => hrun _ (Below.heap_alloc _ _ _ hmlt)
  have a1a := fun o => cell_alloc a1 o
  have b0a := fun o => cell_alloc b0 o
  have H := Lib.hid (And.intro h1 (And.intro h2 (And.intro h3 (And.intro hmW (And.intro h6 (And.intro hfW (And.intro h4 (And.intro hr (And.intro hd hc)))))))))
  clear h1 h2 h3 h4 h5 h6 hfW hbW hxW hmW hrun hlook hr hd hf hc
  go_enter Tryz.func99, Tryz.ntmps99
  go_wp2_with fail
  rw [← hW]
  clear hW
  go_region
  go_wp2_with fail
  obtain ⟨W6, hW6⟩ : ∃ W6, W6 = (W.alloc (.cells #[.string y.key, .slice A0 y.row.length c0, .bool y.gone] 117)).drew := ⟨_, rfl⟩
  have hf6 : Fr No W W6 := by rw [hW6]; exact ((Fr.refl No W).alloc _).drew
  have a1 := hf6.cell a1 (fun f => f)
  have b0 := hf6.cell b0 (fun f => f)
  have b1 := hf6.cell b1 (fun f => f)
  have b2 := hf6.cell b2 (fun f => f)
  obtain ⟨w7, hU, hM, hF7⟩ := run_map_lay (P := Tryz.prog) (w := W6.drew) (H.out.2.2.2.1 _ (by rw [hW6]; exact Below.heap_alloc _ _ _ hmlt)) 171 _ _ Tryz.underlying171 Tryz.underlying9 x.key (.agg #[.string x.key, .slice A x.row.length c, .bool x.gone])
  have HM := Lib.hid (And.intro hM (And.intro hF7 hf6))
  rw [← hW6]
  clear hW6 hM hF7 hf6 r2 r3 hmlt
  go_region
  go_wp2
  go_ret
  obtain ⟨h1, h2, h3, _, h6, hfW, hx, hr, hd, hc⟩ := H.out
  exact ⟨rfl, tx_put_end h1 h2 h3 hx h6 hr hd hc (hfW.trans (HM.out.2.2.mono fun _ _ f => f.elim)) HM.out.1 HM.out.2.1⟩

set_option maxHeartbeats 1000000 in
set_option maxRecDepth 100000 in
theorem tx_write_none {w : World} {F R : Nat → Prop} {xb : Nat} {base : Int} {ws : List Wr} {A : Option Addr} {c : Nat} {x : Wr} (h : TxAt w F xb base ws) (hr : Rd Ty.u8 w R A x.row) (hd : ∀ i, R i → ¬ F i) (hf : wfind x.key ws = none) (hn : ws.length ≤ 20) (hc : x.row.length ≤ c) :
    Calls Tryz.prog 99 #[.pointer (some ⟨xb, 0, none⟩), .agg #[.string x.key, .slice A x.row.length c, .bool x.gone]] w fun e w' => e = .returned (.int .i64 (wwrite ws x).2) ∧ TxAt w' (fun i => F i ∨ R i) xb base (wwrite ws x).1 ∧ Fr F w w' := by
  obtain ⟨h1, mb, l, h2, h3, h4, h5, h6⟩ := h
  have hlook := h6.none_ _ hf
  have Hf := Lib.hid hf
  have hml := h5.lt
  have hlen := h6.len h5.nodup
  obtain ⟨W, hW⟩ : ∃ W, W = w.alloc (.cells #[.string x.key, .slice A x.row.length c, .bool x.gone] 117) := ⟨_, rfl⟩
  have hfW : Fr No w W := by rw [hW]; exact (Fr.refl No w).alloc _
  have hbW : W.heap[w.heap.size]? = some (.cells #[.string x.key, .slice A x.row.length c, .bool x.gone] 117 (0, 0)) := by rw [hW]; exact heap_alloc_new w _
  have hxW := hfW.blk h4 (fun f => f)
  have a1 := blk_cell hxW 1
  have b0 := blk_cell hbW 0
  have b1 := blk_cell hbW 1
  have b2 := blk_cell hbW 2
  simp at a1 b0 b1 b2
  have hmW : ∀ w', w'.heap[mb]? = W.heap[mb]? → MapIs w' mb l := fun w' hw => h5.stab (hw.trans (hfW.block _ h5.lt (fun f => f)))
  have hrun : ∀ w', w'.heap[mb]? = W.heap[mb]? → (Instr.lookup 171 (.map (some mb)) (.string x.key) true).run Tryz.prog w' = .ok (.tuple #[.agg #[.string ⟨#[]⟩, .slice none 0 0, .bool false], .bool false]) w' := fun w' hw => by
    have := (run_map_look (P := Tryz.prog) (hmW w' hw) 171 _ _ Tryz.underlying171 Tryz.underlying9 _ (zero_wr w') x.key).2
    rw [hlook] at this
    exact this
  have hmlt : mb < W.heap.size := by have := h5.lt; have := hfW.size; omega
  have r2 : (Instr.lookup 171 (.map (some mb)) (.string x.key) true).run Tryz.prog W.drew = .ok (.tuple #[.agg #[.string ⟨#[]⟩, .slice none 0 0, .bool false], .bool false]) W.drew := hrun _ rfl
  have r3 : ∀ o, (Instr.lookup 171 (.map (some mb)) (.string x.key) true).run Tryz.prog (W.alloc o).drew = .ok (.tuple #[.agg #[.string ⟨#[]⟩, .slice none 0 0, .bool false], .bool false]) (W.alloc o).drew := fun o => hrun _ (Below.heap_alloc _ _ _ hmlt)
  obtain ⟨es, clk, hes, hsz⟩ := run_map_len h5
  have hm1 : ∀ o, (W.alloc o).drew.heap[mb]? = some (.map es clk) := fun o => (Below.heap_alloc _ _ _ hmlt).trans (hfW.blk hes (fun f => f))
  have hln : ∀ o, (Builtin.len_ #[171] 3 #[.map (some mb)]).run Tryz.prog (W.alloc o).drew = .ok (.int .i64 (ws.length : Int)) (W.alloc o).drew := fun o => by
    have := run_len_map (P := Tryz.prog) (w := (W.alloc o).drew) 171 3 mb es clk (by kernel_rfl) (hm1 o)
    rw [this, hsz.trans hlen]; rfl
  have a1a := fun o => cell_alloc a1 o
  have b0a := fun o => cell_alloc b0 o
  have H := Lib.hid (And.intro h1 (And.intro h2 (And.intro h3 (And.intro hmW (And.intro h6 (And.intro hfW (And.intro h4 (And.intro hr (And.intro hd hc)))))))))
  clear h1 h2 h3 h4 h5 h6 hfW hbW hxW hmW hrun hlook hr hd hf hc hsz hlen hes hm1
  go_enter Tryz.func99, Tryz.ntmps99
  go_wp2_with fail
  rw [← hW]
  clear hW
  go_region
  by_cases h20 : ws.length < 20
  · have h20' : (ws.length : Int) < 20 := by omega
    go_wp2_with fail
    obtain ⟨W6, hW6⟩ : ∃ W6, W6 = (W.alloc (.cells #[.string ⟨#[]⟩, .slice none 0 0, .bool false] 117)).drew := ⟨_, rfl⟩
    have hf6 : Fr No W W6 := by rw [hW6]; exact ((Fr.refl No W).alloc _).drew
    have a1 := hf6.cell a1 (fun f => f)
    have b0 := hf6.cell b0 (fun f => f)
    have b1 := hf6.cell b1 (fun f => f)
    have b2 := hf6.cell b2 (fun f => f)
    obtain ⟨w7, hU, hM, hF7⟩ := run_map_lay (P := Tryz.prog) (w := W6.drew) (H.out.2.2.2.1 _ (by rw [hW6]; exact Below.heap_alloc _ _ _ hmlt)) 171 _ _ Tryz.underlying171 Tryz.underlying9 x.key (.agg #[.string x.key, .slice A x.row.length c, .bool x.gone])
    have HM := Lib.hid (And.intro hM (And.intro hF7 hf6))
    rw [← hW6]
    clear hW6 hM hF7 hf6 r2 r3 hmlt
    go_region
    go_wp2
    go_ret
    obtain ⟨h1, h2, h3, _, h6, hfW, hx, hr, hd, hc⟩ := H.out
    have hwr : wwrite ws x = (wput x ws, 0) := by unfold wwrite; rw [Hf.out]; exact if_neg (by simp; omega)
    rw [hwr]
    exact ⟨rfl, tx_put_end h1 h2 h3 hx h6 hr hd hc (hfW.trans (HM.out.2.2.mono fun _ _ f => f.elim)) HM.out.1 HM.out.2.1⟩
  · have h20' : ¬ (ws.length : Int) < 20 := by omega
    go_wp2_with fail
    go_ret
    obtain ⟨h1, h2, h3, hmW, h6, hfW, hx, hr, hd, hc⟩ := H.out
    have hwr : wwrite ws x = (ws, 1) := by unfold wwrite; rw [Hf.out]; exact if_pos ⟨rfl, by omega⟩
    rw [hwr]
    have hff : Fr No w (W.alloc (.cells #[.string ⟨#[]⟩, .slice none 0 0, .bool false] 117)).drew := (hfW.alloc _).drew
    exact ⟨rfl, (TxAt.fr0 (w := w) ⟨h1, mb, l, h2, h3, hx, (hmW W rfl).stab (hfW.block _ hml (fun f => f)).symm, h6⟩ hff).mono fun i hi _ => .inl hi, hff.mono fun _ _ f => f.elim⟩
end Go.Proofs.YtlmhphejgahfbaaGreatDoor
/- Layer 14 (tx): Put, Del, own. -/
set_option linter.unusedVariables false
set_option linter.unusedSimpArgs false
namespace Go.Proofs.YtlmhphejgahfbaaGreatDoor
open Go.RowKit

theorem wwrite_len {ws : List Wr} {x : Wr} (hr : Rising (ws.map Wr.key)) (h : ws.length ≤ 20) : (wwrite ws x).1.length ≤ 20 := by
  unfold wwrite
  split
  · exact h
  · rename_i hn
    show (wput x ws).length ≤ 20
    rw [wput_length hr]
    split
    · rename_i h1
      have : ¬ 20 ≤ ws.length := fun h2 => hn ⟨h1, h2⟩
      omega
    · exact h
theorem tx_write {w : World} {F R : Nat → Prop} {xb : Nat} {base : Int} {ws : List Wr} {A : Option Addr} {c : Nat} {x : Wr} (h : TxAt w F xb base ws) (hr : Rd Ty.u8 w R A x.row) (hd : ∀ i, R i → ¬ F i) (hn : ws.length ≤ 20) (hc : x.row.length ≤ c) :
    Calls Tryz.prog 99 #[.pointer (some ⟨xb, 0, none⟩), .agg #[.string x.key, .slice A x.row.length c, .bool x.gone]] w fun e w' => e = .returned (.int .i64 (wwrite ws x).2) ∧ TxAt w' (fun i => F i ∨ R i) xb base (wwrite ws x).1 ∧ Fr F w w' := by
  cases hf : wfind x.key ws with
  | none => exact tx_write_none h hr hd hf hn hc
  | some y =>
    have hwr : wwrite ws x = (wput x ws, 0) := by unfold wwrite; rw [hf]; exact if_neg (by simp)
    rw [hwr]
    exact tx_write_some h hr hd hf hc

theorem tx_put {w : World} {F R : Nat → Prop} {xb : Nat} {base : Int} {ws : List Wr} {A : Option Addr} {n c : Nat} {row : Bs} (key : ByteArray) (h : TxAt w F xb base ws) (hr : Rd Ty.u8 w R A row) (hn : ws.length ≤ 20) (hl : n = row.length) (hl2 : row.length ≤ 140737488355328) :
    Calls Tryz.prog 48 #[.pointer (some ⟨xb, 0, none⟩), .string key, .slice A n c] w fun e w' => e = .returned (.int .i64 (wwrite ws ⟨key, row, false⟩).2) ∧ TxAt w' (fun i => F i ∨ w.heap.size ≤ i) xb base (wwrite ws ⟨key, row, false⟩).1 ∧ Fr F w w' := by
  have HC := Lib.hid (clone_ok (c := c) hr hl hl2)
  have H := Lib.hid (h.mono fun i hi hl => (⟨hi, hl⟩ : F i ∧ i < w.heap.size))
  clear h hr hl hl2
  go_enter Tryz.func48, Tryz.ntmps48
  go_wp2_with fail
  refine HC.out.mono ?_
  rintro e1 w1 ⟨A1, c1, rfl, ho, hf1⟩
  have hwr := tx_write (x := ⟨key, row, false⟩) (c := c1) (H.out.fr0 hf1) ho.rd.2.2 (fun i hi h => by have := h.2; have hi' : w.heap.size ≤ i := hi; omega) hn ho.rd.2.1
  have HW := Lib.hid (And.intro hwr hf1)
  clear hwr ho hf1
  go_wp2_with fail
  refine HW.out.1.mono ?_
  rintro e2 w2 ⟨rfl, ht, hf2⟩
  have HT := Lib.hid (And.intro (ht.mono fun i hi _ => hi.imp (fun h => h.1) id) (HW.out.2.mono (G := F) (fun _ _ f => f.elim) |>.trans (hf2.mono fun i _ hi => .inl hi.1)))
  clear ht hf2
  go_wp2_with fail
  go_ret
  exact ⟨rfl, HT.out⟩
theorem tx_del {w : World} {F : Nat → Prop} {xb : Nat} {base : Int} {ws : List Wr} (key : ByteArray) (h : TxAt w F xb base ws) (hn : ws.length ≤ 20) :
    Calls Tryz.prog 60 #[.pointer (some ⟨xb, 0, none⟩), .string key] w fun e w' => e = .returned (.int .i64 (wwrite ws ⟨key, [], true⟩).2) ∧ TxAt w' F xb base (wwrite ws ⟨key, [], true⟩).1 ∧ Fr F w w' := by
  have HW := Lib.hid (tx_write (x := ⟨key, [], true⟩) (A := none) (c := 0) (R := No) h Rd.nil (fun i f => f.elim) hn (Nat.le_refl _))
  clear h
  go_enter Tryz.func60, Tryz.ntmps60
  go_wp2_with fail
  refine HW.out.mono ?_
  rintro e2 w2 ⟨rfl, ht, hf2⟩
  have HT := Lib.hid (And.intro (ht.mono fun i hi _ => hi.elim id (fun f => f.elim)) hf2)
  clear ht hf2
  go_wp2_with fail
  go_ret
  exact ⟨rfl, HT.out⟩

/-- What own answers. -/
def OwnIs (w' : World) (F : Nat → Prop) (e : Ending) (o : Option Wr) : Prop :=
  ∃ k A n c g, e = .returned (.tuple #[.agg #[.string k, .slice A n c, .bool g], .bool o.isSome]) ∧ ∀ y, o = some y → k = y.key ∧ n = y.row.length ∧ g = y.gone ∧ n ≤ c ∧ Rd Ty.u8 w' F A y.row
set_option maxHeartbeats 1000000 in
set_option maxRecDepth 100000 in
theorem tx_own {w : World} {F : Nat → Prop} {xb : Nat} {base : Int} {ws : List Wr} (key : ByteArray) (h : TxAt w F xb base ws) :
    Calls Tryz.prog 116 #[.pointer (some ⟨xb, 0, none⟩), .string key] w fun e w' => OwnIs w' F e (wfind key ws) ∧ Fr No w w' := by
  obtain ⟨h1, mb, l, h2, h3, h4, h5, h6⟩ := h
  obtain ⟨W, hW⟩ : ∃ W, W = w.alloc (.cells #[.string ⟨#[]⟩, .slice none 0 0, .bool false] 117) := ⟨_, rfl⟩
  have hfW : Fr No w W := by rw [hW]; exact (Fr.refl No w).alloc _
  have hbW : W.heap[w.heap.size]? = some (.cells #[.string ⟨#[]⟩, .slice none 0 0, .bool false] 117 (0, 0)) := by rw [hW]; exact heap_alloc_new w _
  have a1 := blk_cell (hfW.blk h4 (fun f => f)) 1
  simp at a1
  have hrun := (run_map_look (P := Tryz.prog) (w := W) (h5.stab (hfW.block _ h5.lt (fun f => f))) 171 _ _ Tryz.underlying171 Tryz.underlying9 _ (zero_wr W) key).2
  have hk : ∃ k A n c g, (look key l).getD (.agg #[.string ⟨#[]⟩, .slice none 0 0, .bool false]) = .agg #[.string k, .slice A n c, .bool g] ∧ (look key l).isSome = (wfind key ws).isSome ∧ ∀ y, wfind key ws = some y → k = y.key ∧ n = y.row.length ∧ g = y.gone ∧ n ≤ c ∧ Rd Ty.u8 w F A y.row := by
    cases hf : wfind key ws with
    | none => rw [h6.none_ _ hf]; exact ⟨_, _, _, _, _, rfl, rfl, fun y h => by cases h⟩
    | some y =>
      obtain ⟨v, hl, A, c, rfl, hc, hr⟩ := h6.some_ _ _ hf
      rw [hl]
      exact ⟨_, _, _, _, _, rfl, rfl, fun y' h => by injection h with h; subst h; exact ⟨rfl, rfl, rfl, hc, hr.mono fun i hi _ => hi.1⟩⟩
  obtain ⟨k, A, n, c, g, hv, hs, hy⟩ := hk
  rw [hv, hs] at hrun
  have hb4 := fun (o : Obj) => blk_set (blk_set (blk_set (((Fr.refl No W).alloc o).blk hbW (fun f => f)) 0 (.string k)) 1 (.slice A n c)) 2 (.bool g)
  have z0 := blk_frozen hbW 0
  have z1 := blk_frozen hbW 1
  have z2 := blk_frozen hbW 2
  have b0 := blk_cell hbW 0
  have b1 := blk_cell hbW 1
  have b2 := blk_cell hbW 2
  simp at b0 b1 b2
  have hlW : w.heap.size < W.heap.size := blk_lt hbW
  have c1 := blk_cell h4 1
  simp at c1
  have hxl : xb < w.heap.size := blk_lt h4
  have H := Lib.hid (And.intro hfW (And.intro hy hb4))
  clear h1 h2 h3 h4 h5 h6 hfW hbW hv hs hy hb4
  go_enter Tryz.func116, Tryz.ntmps116
  subst hW
  go_wp2_with fail
  have hb := blk_two1 w (.cells #[.string k, .slice A n c, .bool g] 117) (.cells #[.string k, .slice A n c, .bool g] 117)
  have d0 := blk_cell hb 0
  have d1 := blk_cell hb 1
  have d2 := blk_cell hb 2
  simp at d0 d1 d2
  have hff : Fr No w ((w.alloc (.cells #[.string k, .slice A n c, .bool g] 117)).alloc (.cells #[.string k, .slice A n c, .bool g] 117)) := ((Fr.refl No w).alloc _).alloc _
  refine bodyPost_ret (v := .tuple #[.agg #[.string k, .slice A n c, .bool g], .bool (wfind key ws).isSome]) (by simp [results, Tryz.results116, go_sem, d0, d1, d2]) rfl ⟨⟨k, A, n, c, g, rfl, fun y hy' => ?_⟩, hff⟩
  obtain ⟨e1, e2, e3, e4, e5⟩ := H.out.2.1 y hy'
  exact ⟨e1, e2, e3, e4, e5.fr0 hff⟩
theorem tx_own_nil (key : ByteArray) (w : World) : Calls Tryz.prog 116 #[.pointer none, .string key] w fun e w' => OwnIs w' No e none ∧ Fr No w w' := by
  go_enter Tryz.func116, Tryz.ntmps116
  go_wp2
  have hb := heap_alloc_new w (.cells #[.string ⟨#[]⟩, .slice none 0 0, .bool false] 117)
  have d0 := blk_cell hb 0
  have d1 := blk_cell hb 1
  have d2 := blk_cell hb 2
  simp at d0 d1 d2
  exact bodyPost_ret (v := .tuple #[.agg #[.string ⟨#[]⟩, .slice none 0 0, .bool false], .bool false]) (by simp [results, Tryz.results116, go_sem, d0, d1, d2]) rfl ⟨⟨_, _, _, _, _, rfl, fun y h => by cases h⟩, (Fr.refl No w).alloc _⟩
end Go.Proofs.YtlmhphejgahfbaaGreatDoor
