/- Layer 13 (store): the functions that only read. -/
import Derived.Test.YtkcppngopdiljaaStore
import Derived.Test.YtkcppngopdiljaaKeys
set_option linter.unusedVariables false
set_option linter.unusedSimpArgs false
namespace Go.Proofs.Ytkcppngopdiljaa
open Go.RowKit

theorem zero_chain (w : World) : (zeroValue 111).run Try.prog w = .ok (.pointer none) w := by kernel_rfl
/-- A key's chain, or nil. -/
def ChainOf (w : World) (F : Nat → Prop) (s : Sto) (k : ByteArray) (v : Value) : Prop :=
  (look k s.kc = none ∧ v = .pointer none) ∨ ∃ c b G, look k s.kc = some c ∧ v = .pointer (some ⟨b, 0, none⟩) ∧ ChainAt w G b c ∧ ∀ i, G i → F i
theorem store_of_nil (k : ByteArray) (w : World) : Calls Try.prog 55 #[.pointer none, .string k] w fun e w' => e = .returned (.pointer none) ∧ w' = w := by
  go_enter Try.func55, Try.ntmps55
  go_wp2
  go_ret
  exact ⟨rfl, rfl⟩
theorem store_of {w : World} {F : Nat → Prop} {sb : Nat} {s : Sto} (h : StoreAt w F sb s) (k : ByteArray) :
    Calls Try.prog 55 #[.pointer (some ⟨sb, 0, none⟩), .string k] w fun e w' => ∃ v, e = .returned v ∧ ChainOf w F s k v ∧ w' = w := by
  obtain ⟨h1, mb, l, G, h2, h3, h4, h5, h6, h7⟩ := h
  have c0 := blk_cell h4 0
  have hrun := (run_map_look (P := Try.prog) h5 89 _ _ Try.underlying89 Try.underlying9 _ (zero_chain w) k).1
  have hv : ChainOf w F s k ((look k l).getD (.pointer none)) := by
    cases hl : look k l with
    | none => exact .inl ⟨(h6.keys k).1 hl, rfl⟩
    | some v =>
      cases hc : look k s.kc with
      | none => rw [(h6.keys k).2 hc] at hl; cases hl
      | some c =>
        obtain ⟨b, rfl, hb⟩ := h6.at_ k v c hl hc
        exact .inr ⟨c, b, G k, hc, rfl, hb, fun i hi => (h7 k i hi).1⟩
  have HV := Lib.hid hv
  clear h1 h2 h3 h4 h5 h6 h7 hv
  simp at c0
  generalize (look k l).getD (.pointer none) = v at *
  go_enter Try.func55, Try.ntmps55
  go_wp2
  go_ret
  exact ⟨v, rfl, HV.out, rfl⟩

theorem get_empty (a : Int) : Chn.empty.get a = none := rfl
theorem sto_get_none {s : Sto} {k : ByteArray} (h : look k s.kc = none) (a : Int) : s.get a k = none := by unfold Sto.get Sto.of; rw [h]; rfl
theorem sto_get_some {s : Sto} {k : ByteArray} {c : Chn} (h : look k s.kc = some c) (a : Int) : s.get a k = c.get a := by unfold Sto.get Sto.of; rw [h]; rfl
theorem sto_last_none {s : Sto} {k : ByteArray} (h : look k s.kc = none) : s.last k = 0 := by unfold Sto.last Sto.of; rw [h]; rfl
theorem sto_last_some {s : Sto} {k : ByteArray} {c : Chn} (h : look k s.kc = some c) : s.last k = c.last := by unfold Sto.last Sto.of; rw [h]; rfl

theorem store_get_nil (a : Int) (k : ByteArray) (w : World) : Calls Try.prog 36 #[.pointer none, .int .i64 a, .string k] w fun e w' => RowOk w w' e none ∧ Fr No w w' := by
  go_enter Try.func36, Try.ntmps36
  go_wp2_with (first
    | (go_at_call 55; refine (store_of_nil _ _).mono ?_; rintro e w' ⟨rfl, rfl⟩)
    | (go_at_call 56; refine (chain_get_nil _ _).mono ?_; rintro e w' ⟨⟨A1, c1, rfl, ho⟩, hf⟩))
  go_ret2
  exact ⟨⟨A1, c1, rfl, ho⟩, hf⟩
theorem chain_get_of {w : World} {F : Nat → Prop} {s : Sto} {m : Nat} {k : ByteArray} {v : Value} (hv : ChainOf w F s k v) (hs : s.Small m) (hm : m ≤ 100000000) (a : Int) :
    Calls Try.prog 56 #[v, .int .i64 a] w fun e w' => RowOk w w' e (s.get a k) ∧ Fr No w w' := by
  rcases hv with ⟨hn, rfl⟩ | ⟨c, b, G, hc, rfl, hb, _⟩
  · rw [sto_get_none hn]; exact chain_get_nil a w
  · rw [sto_get_some hc]
    have h3 : c.l.length ≤ m ∧ c.last ≤ s.now ∧ ∀ v ∈ c.l, v.row.length ≤ 4000 := hs.chains (k, c) (look_mem hc)
    exact chain_get hb (by have := h3.1; omega) (fun v hv => by have := h3.2.2 v hv; omega)
theorem store_get {w : World} {F : Nat → Prop} {sb : Nat} {s : Sto} {m : Nat} (h : StoreAt w F sb s) (hs : s.Small m) (hm : m ≤ 100000000) (a : Int) (k : ByteArray) :
    Calls Try.prog 36 #[.pointer (some ⟨sb, 0, none⟩), .int .i64 a, .string k] w fun e w' => RowOk w w' e (s.get a k) ∧ Fr No w w' := by
  have hof := Lib.hid (store_of h k)
  have HS := Lib.hid (And.intro hs hm)
  clear hs hm
  go_enter Try.func36, Try.ntmps36
  go_wp2_with (first
    | (go_at_call 55; refine hof.out.mono ?_; rintro e w' ⟨v, rfl, hv, rfl⟩; have HV := Lib.hid hv; clear hv)
    | (go_at_call 56; refine (chain_get_of HV.out HS.out.1 HS.out.2 _).mono ?_; rintro e w' ⟨⟨A1, c1, rfl, ho⟩, hf⟩))
  go_ret2
  exact ⟨⟨A1, c1, rfl, ho⟩, hf⟩
theorem store_last_nil (k : ByteArray) (w : World) : Calls Try.prog 42 #[.pointer none, .string k] w fun e w' => e = .returned (.int .i64 0) ∧ w' = w := by
  go_enter Try.func42, Try.ntmps42
  go_wp2_with (first
    | (go_at_call 55; refine (store_of_nil _ _).mono ?_; rintro e w' ⟨rfl, rfl⟩)
    | (go_at_call 64; refine (chain_last_nil _).mono ?_; rintro e w' ⟨rfl, rfl⟩))
  go_ret
  exact ⟨rfl, rfl⟩
theorem chain_last_of {w : World} {F : Nat → Prop} {s : Sto} {k : ByteArray} {v : Value} (hv : ChainOf w F s k v) :
    Calls Try.prog 64 #[v] w fun e w' => e = .returned (.int .i64 (s.last k)) ∧ w' = w := by
  rcases hv with ⟨hn, rfl⟩ | ⟨c, b, G, hc, rfl, hb, _⟩
  · rw [sto_last_none hn]; exact chain_last_nil w
  · rw [sto_last_some hc]; exact chain_last hb
theorem store_last {w : World} {F : Nat → Prop} {sb : Nat} {s : Sto} (h : StoreAt w F sb s) (k : ByteArray) :
    Calls Try.prog 42 #[.pointer (some ⟨sb, 0, none⟩), .string k] w fun e w' => e = .returned (.int .i64 (s.last k)) ∧ w' = w := by
  have hof := Lib.hid (store_of h k)
  go_enter Try.func42, Try.ntmps42
  go_wp2_with (first
    | (go_at_call 55; refine hof.out.mono ?_; rintro e w' ⟨v, rfl, hv, rfl⟩; have HV := Lib.hid hv; clear hv)
    | (go_at_call 64; refine (chain_last_of HV.out).mono ?_; rintro e w' ⟨rfl, rfl⟩))
  go_ret
  exact ⟨rfl, rfl⟩

theorem store_keys_nil (w : World) : Calls Try.prog 66 #[.pointer none] w fun e w' => e = .returned (.slice none 0 0) ∧ w' = w := by
  go_enter Try.func66, Try.ntmps66
  go_wp2
  go_ret
  exact ⟨rfl, rfl⟩
theorem store_keys {w : World} {F : Nat → Prop} {sb : Nat} {s : Sto} {m : Nat} (h : StoreAt w F sb s) (hs : s.Small m) (hm : m ≤ 100000000) :
    Calls Try.prog 66 #[.pointer (some ⟨sb, 0, none⟩)] w fun e w' => ∃ A c, e = .returned (.slice A s.kc.length c) ∧ Rd Ty.str w' (fun i => w.heap.size ≤ i) A (s.kc.map Prod.fst) ∧ s.kc.length ≤ c ∧ Fr No w w' := by
  obtain ⟨h1, mb, l, G, h2, h3, h4, h5, h6, h7⟩ := h
  have c0 := blk_cell h4 0
  have hc := keys_ok mb l (s.kc.map Prod.fst) w h5 h6.rising (fun k => by rw [h6.keys, look_none_iff]) (fun k hk' => by
    obtain ⟨p, hp, rfl⟩ := List.mem_map.1 hk'
    have := hs.ksz p hp
    unfold maxLen; omega) (by rw [List.length_map]; have := hs.keys; omega)
  have HC := Lib.hid hc
  clear h1 h2 h3 h4 h5 h6 h7 hc hs hm
  simp at c0
  go_enter Try.func66, Try.ntmps66
  go_wp2_with (first
    | (go_at_call 75; refine HC.out.1.mono ?_; rintro e w' ⟨rfl, rfl⟩)
    | (go_at_call 32; refine HC.out.2.mono ?_; rintro e w' ⟨A, c, rfl, ho, hf⟩))
  go_ret
  have hr := ho.rd
  rw [List.length_map] at hr
  exact ⟨A, c, rfl, hr.2.2, hr.2.1, hf⟩
end Go.Proofs.Ytkcppngopdiljaa
