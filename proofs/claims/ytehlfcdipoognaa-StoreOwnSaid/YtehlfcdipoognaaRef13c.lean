/- Reference 13 (store): Scan. -/
import Derived.Test.YtehlfcdipoognaaRef13b
set_option linter.unusedVariables false
set_option linter.unusedSimpArgs false
namespace Go.Proofs.Ytehlfcdipoognaa
open Go.RowKit

theorem info_ritem : (Try.prog.info? 71).map (fun i => (i.zero, i.size, i.bytes)) = some (some (.agg #[.string ⟨#[]⟩, .slice none 0 0]), 2, 40) := by kernel_rfl

theorem size_zero {b : ByteArray} (h : b.size = 0) : b = ByteArray.empty := by
  cases b with
  | mk d => cases d with
    | mk l => cases l with
      | nil => rfl
      | cons x l => exact absurd h (by show ¬ (l.length + 1 = 0); omega)
/-- What the document's loop holds at a round's head: k keys were seen. -/
structure RScanInv (w wr : World) (F : Nat → Prop) (s : Sto) (a : Int) (lo hi : ByteArray) (most : Int) (k n : Nat) (v : Value) : Prop where
  le : k ≤ s.kc.length
  len : n = ((s.kc.take k).filterMap (Sto.sel a lo hi)).length
  own : Ow tItem 71 wr (fun i => (F i ∧ i < w.heap.size) ∨ w.heap.size < i) v ((s.kc.take k).filterMap (Sto.sel a lo hi))
  most : (((s.kc.take k).filterMap (Sto.sel a lo hi)).length : Int) ≤ max most 0
  box : ∀ j, v.ownBlock = some j → w.heap.size < j
theorem RScanInv.skip {w wr wr' : World} {F : Nat → Prop} {s : Sto} {a : Int} {lo hi : ByteArray} {most : Int} {k n : Nat} {v : Value} (I : RScanInv w wr F s a lo hi most k n v) {q : ByteArray × Chn} (hk : k < s.kc.length)
    (hs : (s.kc.take (k + 1)).filterMap (Sto.sel a lo hi) = (s.kc.take k).filterMap (Sto.sel a lo hi) ++ (Sto.sel a lo hi q).toList) (hn : Sto.sel a lo hi q = none) (f : Fr No wr wr') : RScanInv w wr' F s a lo hi most (k + 1) n v := by
  rw [hn] at hs
  have e : (s.kc.take (k + 1)).filterMap (Sto.sel a lo hi) = (s.kc.take k).filterMap (Sto.sel a lo hi) := by simpa using hs
  exact ⟨hk, by rw [e]; exact I.len, by rw [e]; exact I.own.fr0 f, by rw [e]; exact I.most, I.box⟩

theorem RScanInv.add {w wr W w' : World} {F : Nat → Prop} {s : Sto} {a : Int} {lo hi : ByteArray} {most : Int} {k n c2 c : Nat} {A2 A : Option Addr} (I : RScanInv w wr F s a lo hi most k n (.slice A2 n c2)) {q : ByteArray × Chn} {x : Item} (hk : k < s.kc.length)
    (hs : (s.kc.take (k + 1)).filterMap (Sto.sel a lo hi) = (s.kc.take k).filterMap (Sto.sel a lo hi) ++ (Sto.sel a lo hi q).toList) (hn : Sto.sel a lo hi q = some x) (hm : (n : Int) < most) (hW : w.heap.size < W.heap.size)
    (ho : Ow tItem 71 w' (fun i => ((F i ∧ i < w.heap.size) ∨ w.heap.size < i) ∨ W.heap.size ≤ i) (.slice A (n + 1) c) ((s.kc.take k).filterMap (Sto.sel a lo hi) ++ [x]))
    (hat : (Value.slice A (n + 1) c).ownBlock = (Value.slice A2 n c2).ownBlock ∨ (Value.slice A (n + 1) c).ownBlock = some W.heap.size) : RScanInv w w' F s a lo hi most (k + 1) (n + 1) (.slice A (n + 1) c) := by
  rw [hn] at hs
  have e : (s.kc.take (k + 1)).filterMap (Sto.sel a lo hi) = (s.kc.take k).filterMap (Sto.sel a lo hi) ++ [x] := hs
  have hl := I.len
  refine ⟨hk, by rw [e]; simp; omega, by rw [e]; exact ho.mono fun i hi _ => (by rcases hi with hi | hi; exact hi; exact .inr (by omega)), by rw [e]; simp; omega, fun j hj => ?_⟩
  · rcases hat with hat | hat
    · exact I.box j (by rw [← hat]; exact hj)
    · rw [hj] at hat; injection hat with hat; omega

set_option maxHeartbeats 4000000 in
set_option maxRecDepth 100000 in
theorem ref_scan {w : World} {F : Nat → Prop} {v : Value} {s : Sto} {m : Nat} (a : Int) (lo hi : ByteArray) (most : Int) (h : StoVal w F v s) (hs : s.Fine m) (hm : m ≤ 100000000) :
    Calls Try.prog 15 #[v, .int .i64 a, .string lo, .string hi, .int .i64 most] w fun e w' =>
      ∃ A c, e = .returned (.slice A (s.scan a lo hi most).length c) ∧ (s.scan a lo hi most).length ≤ c ∧ Rd tItem w' (fun i => F i ∨ w.heap.size ≤ i) A (s.scan a lo hi most) ∧ Fr No w w' := by
  have hget := fun w' (f : Fr No w w') key => ref_get a key ((h.mono fun i hi hl => (⟨hi, hl⟩ : F i ∧ i < w.heap.size)).fr0 f) hs hm
  obtain ⟨A, c, B, d, rfl, h1, h2, h3, h4⟩ := h
  have hkl : (s.kc.length : Int) ≤ 100000000 := by have := hs.small.keys; omega
  have H := Lib.hid (And.intro hget (And.intro h3 hs))
  clear h1 h2 h3 h4 hs hget
  have fin : ∀ (wr : World) (k n : Nat) (A2 : Option Addr) (c2 : Nat), Fr No w wr → RScanInv w wr F s a lo hi most k n (.slice A2 n c2) → s.scan a lo hi most = (s.kc.take k).filterMap (Sto.sel a lo hi) →
      ∃ A c, Ending.returned (.slice A2 n c2) = .returned (.slice A (s.scan a lo hi most).length c) ∧ (s.scan a lo hi most).length ≤ c ∧ Rd tItem wr (fun i => F i ∨ w.heap.size ≤ i) A (s.scan a lo hi most) ∧ Fr No w wr := by
    intro wr k n A2 c2 hf I e
    rw [e]
    have hl := I.len
    subst hl
    exact ⟨A2, c2, rfl, I.own.rd.2.1, I.own.rd.2.2.mono (fun i hi _ => by rcases hi with hi | hi; exact .inl hi.1; exact .inr (by omega)), hf⟩
  have FIN := Lib.hid fin
  clear fin
  go_enter Try.func15, Try.ntmps15
  go_wp2
  go_loopw [11, 12] (fun v i wr => ∃ (k n : Nat) (A2 : Option Addr) (c2 : Nat), v = .slice A2 n c2 ∧ i = .int .i64 k ∧ Hid (RScanInv w wr F s a lo hi most k n (.slice A2 n c2)) ∧ Hid (Fr No (w.alloc (.cells #[.slice A s.kc.length c, .slice B s.kc.length d, .int .i64 s.now] 29)) wr)) (fun _ i _ => s.kc.length - (intOf i).toNat)
  case atStart => exact ⟨0, 0, none, 0, rfl, rfl, ⟨Nat.zero_le _, rfl, Ow.nil, by simp; omega, fun j hj => by simp [Value.ownBlock] at hj⟩, Fr.refl _ _⟩
  case round =>
    obtain ⟨k, n, A2, c2, rfl, rfl, I, hf⟩ := hrel
    have hb := hf.out.blk (heap_alloc_new w (.cells #[.slice A s.kc.length c, .slice B s.kc.length d, .int .i64 s.now] 29)) (fun f => f)
    have b0 := blk_cell hb 0
    have b1 := blk_cell hb 1
    have b2 := blk_cell hb 2
    simp at b0 b1 b2
    have hfw : Fr No w wr := ((Fr.refl No w).alloc _).trans (hf.out.mono fun _ _ f => f.elim)
    have hq0 : (0 : Int) ≤ (k : Int) := Int.natCast_nonneg _
    by_cases hlt : k < s.kc.length
    · by_cases hmost : (n : Int) < most
      · obtain ⟨ad, rfl, x0⟩ := str_at (H.out.2.1.fr0 hfw) (i := k) (by simpa using hlt)
        rw [List.getElem_map] at x0
        have hq1 : (k : Int) < (s.kc.length : Int) := by omega
        have hg := H.out.1 wr hfw s.kc[k].1
        have hlook : s.get a s.kc[k].1 = s.kc[k].2.get a := sto_get_some (look_of_mem H.out.2.2.rising.nodup (List.getElem_mem hlt)) a
        rw [hlook] at hg
        have hsel := Sto.sel_step (a := a) (lo := lo) (hi := hi) hlt
        obtain ⟨q, hq⟩ : ∃ q, s.kc[k] = q := ⟨_, rfl⟩
        rw [hq] at x0 hg hsel
        have HG := Lib.hid (And.intro hg (And.intro hsel hfw))
        clear hg hsel hlook hq hb hfw
        cases hr : q.2.get a with
        | none =>
          have HS : Hid (Sto.sel a lo hi q = none) := by show _ = _; unfold Sto.sel; rw [hr]
          rw [hr] at HG
          clear hr
          go_wp2_with (go_at_call 30; refine HG.out.1.mono ?_; rintro e w2 ⟨⟨A1, c1, rfl, hc1, ho1⟩, hf2⟩; have HO1 := Lib.hid ho1; clear ho1 hc1)
          go_roundw
          case rel => exact ⟨k + 1, n, A2, c2, rfl, by go_num, I.out.skip hlt HG.out.2.1 HS.out hf2, hf.out.trans (hf2.mono fun _ _ f => f.elim)⟩
          case measure => simp [intOf]; omega
        | some row =>
          rw [hr] at HG
          cases h4 : Op.bytesLess q.1.toList lo.toList
          · have HSel : Hid ((hi.size = 0 ∨ kl q.1 hi = true) → Sto.sel a lo hi q = some (q.1, row)) := by
              show _ → _; intro h0; unfold Sto.sel; rw [hr]; exact if_pos ⟨h4, h0⟩
            have HLn : Hid (((s.kc.take k).filterMap (Sto.sel a lo hi)).length = n ∧ n ≤ 100000000) := ⟨I.out.len.symm, by have := I.out.len; have := List.length_filterMap_le (Sto.sel a lo hi) (s.kc.take k); have := List.length_take_le k s.kc; omega⟩
            by_cases h2 : hi = ByteArray.empty <;> cases h3 : Op.bytesLess q.1.toList hi.toList
            case neg.false =>
              have HS : Hid (Sto.sel a lo hi q = none) := by show _ = _; exact Sto.sel_none (fun e => h2 (size_zero e)) h3
              have z1 : hi.size ≠ 0 := fun e => h2 (size_zero e)
              have z2 : ((hi.size : Int) == 0) = false := by simp; exact h2
              clear hr
              go_wp2_with (go_at_call 30; refine HG.out.1.mono ?_; rintro e w2 ⟨⟨A1, c1, rfl, hc1, ho1⟩, hf2⟩; have HO1 := Lib.hid ho1; clear ho1 hc1)
              go_roundw
              case rel => exact ⟨k + 1, n, A2, c2, rfl, by go_num, I.out.skip hlt HG.out.2.1 HS.out hf2, hf.out.trans (hf2.mono fun _ _ f => f.elim)⟩
              case measure => simp [intOf]; omega
            all_goals
              first
                | subst h2
                | have z2 : ((hi.size : Int) == 0) = false := by simp; exact h2
              have HS := Lib.hid (HSel.out (by first | exact .inr h3 | exact .inl rfl))
              clear hr
              go_wp2_with (first
                | (go_at_call 30; refine HG.out.1.mono ?_; rintro e w2 ⟨⟨A1, c1, rfl, hc1, ho1⟩, hf2⟩; have HO1 := Lib.hid (And.intro hc1 ho1); clear ho1 hc1)
                | (at_builtin; refine ow_append tItem (ys := [(q.1, row)]) ((I.out.own.fr0 hf2).fr0 ((Fr.refl No w2).alloc _)) _ _ _ 40 rfl rfl Try.underlying35 info_ritem rfl (by decide) (by decide) rfl rfl rfl
                    (Row.single (tItem_mk (A := A1) (c := c1) HO1.out.1 ((HO1.out.2.fr0 ((Fr.refl No w2).alloc _)).mono fun i hi hl => ?qf))) (At.block (heap_alloc_new _ _)) ?ql ?_
                   case qf => exact ⟨.inl hi, fun he => by have := I.out.box i he; have := hi.2; omega⟩
                   case ql => rw [HLn.out.1]; have := HLn.out.2; simp; omega
                   intro A3 c3 w3 hown3 hg3 hat3
                   have H3 := Lib.hid (And.intro hown3 (And.intro hg3 hat3))
                   have hlen3 : _ + [(q.1, row)].length = n + 1 := congrArg (· + 1) HLn.out.1
                   rw [hlen3] at H3 ⊢
                   clear hown3 hg3 hat3 hlen3))
              go_roundw
              case rel =>
                have hsz : wr.heap.size ≤ w2.heap.size := hf2.size
                have hsw : w.heap.size + 1 ≤ wr.heap.size := by have := hf.out.size; simpa using this
                exact ⟨k + 1, n + 1, A3, c3, rfl, by go_num, I.out.add hlt HG.out.2.1 HS.out (by omega) (by simp; omega) H3.out.1 H3.out.2.2, ((hf.out.trans (hf2.mono fun _ _ f => f.elim)).alloc _).grown H3.out.2.1 fun j hj => .inr (by have := I.out.box j hj; simp; omega)⟩
              case measure => simp [intOf]; omega
          · have HS : Hid (Sto.sel a lo hi q = none) := by show _ = _; unfold Sto.sel; rw [hr]; exact if_neg (by show ¬ (kl q.1 lo = false ∧ _); rw [show kl q.1 lo = true from h4]; simp)
            clear hr
            go_wp2_with (go_at_call 30; refine HG.out.1.mono ?_; rintro e w2 ⟨⟨A1, c1, rfl, hc1, ho1⟩, hf2⟩; have HO1 := Lib.hid ho1; clear ho1 hc1)
            go_roundw
            case rel => exact ⟨k + 1, n, A2, c2, rfl, by go_num, I.out.skip hlt HG.out.2.1 HS.out hf2, hf.out.trans (hf2.mono fun _ _ f => f.elim)⟩
            case measure => simp [intOf]; omega
      · have HD : Hid (s.scan a lo hi most = (s.kc.take k).filterMap (Sto.sel a lo hi)) := Sto.scan_stop1 (by rw [← I.out.len]; omega) I.out.most
        go_wp2
        go_ret
        exact FIN.out wr k n A2 c2 hfw I.out HD.out
    · obtain rfl : k = s.kc.length := by have := I.out.le; omega
      go_wp2
      go_ret
      have e := I.out.most
      rw [List.take_length] at e
      exact FIN.out wr _ n A2 c2 hfw I.out (by rw [List.take_length]; exact Sto.scan_end e)
end Go.Proofs.Ytehlfcdipoognaa
