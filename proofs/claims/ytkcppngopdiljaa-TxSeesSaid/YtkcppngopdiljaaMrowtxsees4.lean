/- Texts of this claim, one behind the other: Ref14d, Tx11, Tx5, Tx12, Law29. -/
import Derived.Test.YtkcppngopdiljaaMrowtxsees3
import Derived.Test.YtkcppngopdiljaaMrowtxsees2
import Derived.StillTailTactics
import Derived.Deep.DeepCutAuto
import Derived.Deep.RegionLaw
import Derived.Test.YtkcppngopdiljaaMrowtxsees1
import Derived.Deep.RegionHeld3
/- Reference 14 (tx): Scan. -/
set_option linter.unusedVariables false
set_option linter.unusedSimpArgs false
namespace Go.Proofs.Ytkcppngopdiljaa
open Go.RowKit

/-- What the document's loop holds at a round's head: k keys were seen. -/
structure XInv (W wr : World) (G : Nat → Prop) (ks : List ByteArray) (f : ByteArray → Option Item) (most : Int) (k n : Nat) (v : Value) : Prop where
  le : k ≤ ks.length
  len : n = ((ks.take k).filterMap f).length
  own : Ow tItem 107 wr (fun i => (G i ∧ i < W.heap.size) ∨ W.heap.size ≤ i) v ((ks.take k).filterMap f)
  most : (((ks.take k).filterMap f).length : Int) ≤ max most 0
  box : ∀ j, v.ownBlock = some j → W.heap.size ≤ j
  fr : Fr No W wr
theorem XInv.skip {W wr wr' : World} {G : Nat → Prop} {ks : List ByteArray} {f : ByteArray → Option Item} {most : Int} {k n : Nat} {v : Value} (I : XInv W wr G ks f most k n v) (hk : k < ks.length) (hn : f ks[k] = none) (fr : Fr No wr wr') : XInv W wr' G ks f most (k + 1) n v := by
  have e : (ks.take (k + 1)).filterMap f = (ks.take k).filterMap f := by rw [List.take_succ_eq_append_getElem hk, List.filterMap_append]; simp [hn]
  exact ⟨hk, by rw [e]; exact I.len, by rw [e]; exact I.own.fr0 fr, by rw [e]; exact I.most, I.box, I.fr.trans (fr.mono fun _ _ f => f.elim)⟩
theorem XInv.add {W wr w1 w' : World} {G : Nat → Prop} {ks : List ByteArray} {f : ByteArray → Option Item} {most : Int} {k n n3 c2 c : Nat} {A2 A : Option Addr} (I : XInv W wr G ks f most k n (.slice A2 n c2)) {x : Item} (hk : k < ks.length) (hx : f ks[k] = some x) (hm : (n : Int) < most) (fr : Fr No wr w1) (hn : n3 = n + 1)
    (ho : Ow tItem 107 w' (fun i => ((G i ∧ i < W.heap.size) ∨ W.heap.size ≤ i) ∨ w1.heap.size ≤ i) (.slice A n3 c) ((ks.take k).filterMap f ++ [x])) (hg : w1.grownBy w' (Value.slice A2 n c2).ownBlock)
    (hat : (Value.slice A n3 c).ownBlock = (Value.slice A2 n c2).ownBlock ∨ (Value.slice A n3 c).ownBlock = some w1.heap.size) : XInv W w' G ks f most (k + 1) (n + 1) (.slice A (n + 1) c) := by
  have e : (ks.take (k + 1)).filterMap f = (ks.take k).filterMap f ++ [x] := by rw [List.take_succ_eq_append_getElem hk, List.filterMap_append]; simp [hx]
  have hl := I.len
  subst hn
  have hsz := (I.fr.trans (fr.mono (G := fun i => No i ∨ W.heap.size ≤ i) fun _ _ f => f.elim)).size
  refine ⟨hk, by rw [e]; simp; omega, by rw [e]; exact ho.mono fun i hi _ => (by rcases hi with hi | hi; exact hi; exact .inr (by omega)), by rw [e]; simp; omega, fun j hj => ?_, (I.fr.trans (fr.mono fun _ _ f => f.elim)).grown hg fun j hj => .inr (I.box j hj)⟩
  rcases hat with hat | hat
  · exact I.box j (by rw [← hat]; exact hj)
  · rw [hj] at hat; injection hat with hat; omega
theorem XInv.stop {W wr : World} {G : Nat → Prop} {ks : List ByteArray} {f : ByteArray → Option Item} {most : Int} {k n : Nat} {v : Value} (I : XInv W wr G ks f most k n v) (h : most ≤ (n : Int) ∨ k = ks.length) : (ks.filterMap f).take most.toNat = (ks.take k).filterMap f := by
  have h1 := List.filterMap_append (f := f) (l := ks.take k) (l' := ks.drop k)
  rw [List.take_append_drop] at h1
  have hl := I.len
  have hm := I.most
  rcases h with h | h
  · have e : most.toNat = ((ks.take k).filterMap f).length := by omega
    rw [e, h1]
    exact List.take_left
  · rw [h, List.take_length] at hm ⊢
    exact List.take_of_length_le (by omega)

theorem XInv.lenle {W wr : World} {G : Nat → Prop} {ks : List ByteArray} {f : ByteArray → Option Item} {most : Int} {k n : Nat} {v : Value} (I : XInv W wr G ks f most k n v) : ((ks.take k).filterMap f).length ≤ ks.length :=
  Nat.le_trans (List.length_filterMap_le _ _) (List.length_take_le' _ _)
theorem xsel_get {ws : List Wr} {s : Sto} {a : Int} {lo hi k : ByteArray} {row : Bs} (h : xget ws s a k = some row) (hb : inB lo hi k = true) : xsel ws s a lo hi k = some (k, row) := by unfold xsel; rw [h]; exact if_pos hb
theorem xsel_no {ws : List Wr} {s : Sto} {a : Int} {lo hi k : ByteArray} (h : xget ws s a k = none) : xsel ws s a lo hi k = none := by unfold xsel; rw [h]
theorem xsel_out {ws : List Wr} {s : Sto} {a : Int} {lo hi k : ByteArray} (hb : inB lo hi k = false) : xsel ws s a lo hi k = none := by
  unfold xsel
  split
  · rw [hb]; rfl
  · rfl

set_option maxHeartbeats 4000000 in
set_option maxRecDepth 100000 in
theorem ref_xscan {w : World} {F FM : Nat → Prop} {v u : Value} {base : Int} {ws : List Wr} {s : Sto} {m : Nat} (lo hi : ByteArray) (most : Int) (h : TxVal w F v base ws) (k : StoVal w FM u s) (hs : s.Fine m) (hm : m ≤ 100000000) (hr : Rising (ws.map Wr.key)) (hn : ws.length ≤ 1000000) (hg : ∀ x ∈ ws, x.gone = true → x.row = []) :
    Calls Try.prog 29 #[v, u, .string lo, .string hi, .int .i64 most] w fun e w' =>
      ∃ A c, e = .returned (.slice A (xscan ws s base lo hi most).length c) ∧ (xscan ws s base lo hi most).length ≤ c ∧ Rd tItem w' (fun i => (F i ∨ FM i) ∨ w.heap.size ≤ i) A (xscan ws s base lo hi most) ∧ Fr No w w' := by
  have k0 := k
  have h0 := h
  obtain ⟨A, c, rfl, h1, h2⟩ := h
  obtain ⟨B1, d1, B2, d2, rfl, _, _, hK1, _⟩ := k
  have hnI : (ws.length : Int) ≤ 1000000 := by omega
  obtain ⟨W, hW⟩ : ∃ W, W = (w.alloc (.cells #[.int .i64 base, .slice A ws.length c] 34)).alloc (.cells #[.slice B1 s.kc.length d1, .slice B2 s.kc.length d2, .int .i64 s.now] 55) := ⟨_, rfl⟩
  have hf : Fr No w W := by rw [hW]; exact ((Fr.refl No w).alloc _).alloc _
  have hb0 : W.heap[w.heap.size]? = some (.cells #[.int .i64 base, .slice A ws.length c] 34 (0, 0)) := by rw [hW]; exact blk_two1 ..
  have hb1 : W.heap[w.heap.size + 1]? = some (.cells #[.slice B1 s.kc.length d1, .slice B2 s.kc.length d2, .int .i64 s.now] 55 (0, 0)) := by rw [hW]; exact blk_two2 ..
  have hget := fun key w' (f : Fr No W w') => ref_xget key (((h0.mono fun i hi hl => (⟨hi, hl⟩ : F i ∧ i < w.heap.size)).fr0 hf).fr0 f) (((k0.mono fun i hi hl => (⟨hi, hl⟩ : FM i ∧ i < w.heap.size)).fr0 hf).fr0 f) hs hm hr hn hg
  have hkl := hs.small.keys
  have H := Lib.hid (And.intro (h2.fr0 hf) (And.intro hf (And.intro hb0 (And.intro hb1 (And.intro hget (hK1.fr0 hf))))))
  have hbx0 := blk_cell hb0 1
  have hbx1 := blk_cell hb1 0
  simp at hbx0 hbx1
  have HK1 := hK1.fr0 hf |>.at
  obtain ⟨csK, hcsK⟩ := HK1
  have HK1 := Lib.hid hcsK
  clear hcsK
  clear h2 hf hb0 hb1 hget hs k0 hr hg hK1 h0
  go_enter Try.func29, Try.ntmps29
  go_wp2_with (at_builtin; rw [← hW]; refine ow_append Ty.str (xs := []) (ys := s.kc.map Prod.fst) (F := fun i => W.heap.size ≤ i) Ow.nil _ _ _ 16 rfl rfl Try.underlying52 info_str rfl (by decide) (by decide) rfl rfl (by rw [List.length_map]) (HK1.out.1.imp fun _ _ h => h) HK1.out.2 (by simp; omega) ?_; intro A1 c1 w1 ho1 hg1 hat1; have HO1 := Lib.hid (And.intro ho1 (And.intro hg1 hat1)); clear ho1 hg1 hat1)
  have hW1 : Fr No W w1 := (Fr.refl No W).grown HO1.out.2.1 fun i hi => by simp [Value.ownBlock] at hi
  have hS1 : Ow Ty.str 9 w1 (fun i => W.heap.size ≤ i) (.slice A1 s.kc.length c1) (s.kc.map Prod.fst) := by
    have := HO1.out.1
    simp only [List.length_nil, Nat.zero_add, List.length_map, List.nil_append] at this
    exact this.mono fun i hi _ => hi.elim id id
  have H1 := Lib.hid (And.intro hS1 hW1)
  have hlen1 : (([] : List ByteArray).length + (s.kc.map Prod.fst).length) = s.kc.length := by simp
  clear hS1 hW1
  go_loopw [11, 12] (fun v i wr => ∃ (k n : Nat) (A : Option Addr) (c : Nat), k ≤ ws.length ∧ v = .slice A n c ∧ i = .int .i64 k ∧ Hid (n = s.kc.length + k ∧ Ow Ty.str 9 wr (fun i => W.heap.size ≤ i) (.slice A n c) (s.kc.map Prod.fst ++ (ws.map Wr.key).take k) ∧ Fr No W wr)) (fun _ i _ => ws.length - (intOf i).toNat)
  case atStart => exact ⟨0, s.kc.length, A1, c1, Nat.zero_le _, by simp, rfl, by simp, by simpa using H1.out.1, H1.out.2⟩
  case round =>
    obtain ⟨k, n, A2, c2, hk, rfl, rfl, I⟩ := hrel
    have hq0 : (0 : Int) ≤ (k : Int) := Int.natCast_nonneg _
    have hB0 := I.out.2.2.blk H.out.2.2.1 (fun f => f)
    have hB1 := I.out.2.2.blk H.out.2.2.2.1 (fun f => f)
    have a1 := blk_cell hB0 1
    simp at a1
    clear hB0 hB1
    by_cases hlt : k < ws.length
    · have hq1 : (k : Int) < (ws.length : Int) := by omega
      obtain ⟨ad, A', c', rfl, x0, _, _, _, _⟩ := wr_at (H.out.1.fr0 I.out.2.2) hlt
      have htk : (ws.map Wr.key).take (k + 1) = (ws.map Wr.key).take k ++ [ws[k].key] := by rw [List.take_succ_eq_append_getElem (by simpa using hlt), List.getElem_map]
      obtain ⟨x, hx⟩ : ∃ x, ws[k].key = x := ⟨_, rfl⟩
      rw [hx] at x0 htk
      have HT := Lib.hid htk
      clear htk hx
      go_wp2_with (at_builtin; refine ow_append Ty.str (ys := [x]) (I.out.2.1.fr0 ((Fr.refl No wr).alloc _)) _ _ _ 16 rfl rfl Try.underlying52 info_str rfl (by decide) (by decide) rfl rfl rfl (Row.single rfl) (At.block (heap_alloc_new _ _)) (by have := I.out.1; simp; omega) ?_; intro A3 c3 w3 ho3 hg3 hat3; have H3 := Lib.hid (And.intro ho3 (And.intro hg3 hat3)); clear ho3 hg3 hat3)
      go_roundw
      case rel =>
        refine ⟨k + 1, n + 1, A3, c3, by omega, ?_, by go_num, by have := I.out.1; omega, ?_, (I.out.2.2.alloc _).grown H3.out.2.1 fun j hj => .inr (I.out.2.1.own hj).1⟩
        · have := I.out.1; simp; omega
        · have h5 := H3.out.1
          have e : ((s.kc.map Prod.fst ++ (ws.map Wr.key).take k).length + [x].length) = n + 1 := by have := I.out.1; simp; omega
          rw [e] at h5
          rw [HT.out, ← List.append_assoc]
          exact h5.mono fun i hi _ => by rcases hi with hi | hi; exact hi; (have := I.out.2.2.size; simp at hi; omega)
      case measure => simp [intOf]; omega
    · obtain rfl : k = ws.length := by omega
      have hkeys := I.out.2.1
      rw [show (ws.map Wr.key).take ws.length = ws.map Wr.key by rw [← List.length_map (f := Wr.key)]; exact List.take_length] at hkeys
      have hnl : n = (s.kc.map Prod.fst ++ ws.map Wr.key).length := by rw [List.length_append, List.length_map, List.length_map]; exact I.out.1
      have hrise := ref_rise (cp := c2) hkeys.rd.2.2 (by rw [← hnl]; have := I.out.1; omega)
      rw [← hnl] at hrise
      have hrl := rise_length (s.kc.map Prod.fst ++ ws.map Wr.key)
      rw [← hnl] at hrl
      obtain ⟨KS, hKS⟩ : ∃ KS, rise (s.kc.map Prod.fst ++ ws.map Wr.key) = KS := ⟨_, rfl⟩
      rw [hKS] at hrise hrl
      have hKl : KS.length ≤ 101000000 := by have := I.out.1; omega
      have hKI : (KS.length : Int) ≤ 101000000 := by omega
      have HR := Lib.hid (And.intro hrise (And.intro hKS I.out.2.2))
      clear hrise hrl hKS hkeys hnl
      go_wp2_with fail
      refine HR.out.1.mono ?_
      rintro e4 w4 ⟨A4, c4, rfl, ho4, hf4⟩
      have H4 := Lib.hid (And.intro ho4.rd.2.2 (And.intro hf4 (HR.out.2.2.trans (hf4.mono fun _ _ f => f.elim))))
      clear ho4 hf4 a1
      go_wp2_with fail
      go_loopw [14, 15] (fun v i wr => ∃ (k n : Nat) (A : Option Addr) (c : Nat), v = .slice A n c ∧ i = .int .i64 k ∧ Hid (XInv w4 wr (fun i => (F i ∨ FM i) ∧ i < w.heap.size) KS (xsel ws s base lo hi) most k n (.slice A n c))) (fun _ i _ => KS.length - (intOf i).toNat)
      case atStart => exact ⟨0, 0, none, 0, rfl, rfl, ⟨Nat.zero_le _, rfl, Ow.nil, by simp; omega, (fun j hj => by simp [Value.ownBlock] at hj), Fr.refl _ _⟩⟩
      case round =>
        obtain ⟨k, n, A5, c5, rfl, rfl, I⟩ := hrel
        have hq0 : (0 : Int) ≤ (k : Int) := Int.natCast_nonneg _
        have hfr : Fr No W wr := H4.out.2.2.trans (I.out.fr.mono fun _ _ f => f.elim)
        have hB0 := hfr.blk H.out.2.2.1 (fun f => f)
        have hB1 := hfr.blk H.out.2.2.2.1 (fun f => f)
        have a0 := blk_cell hB0 0
        have a1 := blk_cell hB0 1
        have b0 := blk_cell hB1 0
        have b1 := blk_cell hB1 1
        have b2 := blk_cell hB1 2
        simp at a0 a1 b0 b1 b2
        clear hB0 hB1
        by_cases hlt : k < KS.length
        · by_cases hmost : (n : Int) < most
          · have hq1 : (k : Int) < (KS.length : Int) := by omega
            obtain ⟨ad, rfl, x0⟩ := str_at (H4.out.1.fr0 I.out.fr) hlt
            obtain ⟨q, hq⟩ : ∃ q, KS[k] = q := ⟨_, rfl⟩
            rw [hq] at x0
            have HQ := Lib.hid hq
            clear hq
            have hcall := fun w' (f : Fr No wr w') => H.out.2.2.2.2.1 q w' (hfr.trans (f.mono fun _ _ f => f.elim))
            cases hr : xget ws s base q with
            | none =>
              rw [hr] at hcall
              have HG := Lib.hid hcall
              clear hcall hfr
              have HS := Lib.hid (xsel_no (lo := lo) (hi := hi) hr)
              clear hr
              go_wp2_with fail
              go_region_held3 (fun w' => w'.cell? ⟨w.heap.size, 0, none⟩ = some (.int .i64 base) ∧ w'.cell? ⟨w.heap.size, 1, none⟩ = some (.slice A ws.length c) ∧ w'.cell? ⟨w.heap.size + 1, 0, none⟩ = some (.slice B1 s.kc.length d1) ∧ w'.cell? ⟨w.heap.size + 1, 1, none⟩ = some (.slice B2 s.kc.length d2) ∧ w'.cell? ⟨w.heap.size + 1, 2, none⟩ = some (.int .i64 s.now) ∧ w'.cell? (ad.add k) = some (.string q))
                (first
                  | exact ⟨a0, a1, b0, b1, b2, x0⟩
                  | exact ⟨q0, q1, q2, q3, q4, q5⟩)
                (first
                  | (go_at_call 27; refine (HG.out _ (by repeat (first | assumption | exact Fr.refl _ _ | apply Fr.drew | apply Fr.drewN))).mono ?_; rintro e7 w7 ⟨⟨A7, c7, rfl, hc7, hr7⟩, hf7⟩
                     have r7 : Fr No wr w7 := Fr.trans (by repeat (first | exact Fr.refl _ _ | apply Fr.drew | apply Fr.drewN)) (hf7.mono fun _ _ f => f.elim)
                     have q0 := r7.cell a0 (fun f => f)
                     have q1 := r7.cell a1 (fun f => f)
                     have q2 := r7.cell b0 (fun f => f)
                     have q3 := r7.cell b1 (fun f => f)
                     have q4 := r7.cell b2 (fun f => f)
                     have q5 := r7.cell x0 (fun f => f)
                     have H7 := Lib.hid (And.intro hc7 (And.intro hr7 r7))
                     clear hf7 hc7 hr7 r7))
              all_goals
                go_wp2_with fail
                go_roundw
                case rel => exact ⟨k + 1, n, A5, c5, rfl, by go_num, I.out.skip hlt (HQ.out.symm ▸ HS.out) H7.out.2.2⟩
                case measure => simp [intOf]; omega
            | some row =>
              rw [hr] at hcall
              have HG := Lib.hid hcall
              clear hcall hfr
              cases h4 : Op.bytesLess q.toList lo.toList
              · by_cases h2 : hi = ByteArray.empty <;> cases h3 : Op.bytesLess q.toList hi.toList
                case neg.false =>
                  have z1 : inB lo hi q = false := by
                    unfold inB kl
                    rw [h3, decide_eq_false (fun e => h2 (size_zero e))]; simp
                  have z2 : ((hi.size : Int) == 0) = false := by simp; exact h2
                  have HS := Lib.hid (xsel_out (ws := ws) (s := s) (a := base) z1)
                  clear hr z1
                  go_wp2_with fail
                  go_region_held3 (fun w' => w'.cell? ⟨w.heap.size, 0, none⟩ = some (.int .i64 base) ∧ w'.cell? ⟨w.heap.size, 1, none⟩ = some (.slice A ws.length c) ∧ w'.cell? ⟨w.heap.size + 1, 0, none⟩ = some (.slice B1 s.kc.length d1) ∧ w'.cell? ⟨w.heap.size + 1, 1, none⟩ = some (.slice B2 s.kc.length d2) ∧ w'.cell? ⟨w.heap.size + 1, 2, none⟩ = some (.int .i64 s.now) ∧ w'.cell? (ad.add k) = some (.string q))
                    (first
                      | exact ⟨a0, a1, b0, b1, b2, x0⟩
                      | exact ⟨q0, q1, q2, q3, q4, q5⟩)
                    (first
                      | (go_at_call 27; refine (HG.out _ (by repeat (first | assumption | exact Fr.refl _ _ | apply Fr.drew | apply Fr.drewN))).mono ?_; rintro e7 w7 ⟨⟨A7, c7, rfl, hc7, hr7⟩, hf7⟩
                         have r7 : Fr No wr w7 := Fr.trans (by repeat (first | exact Fr.refl _ _ | apply Fr.drew | apply Fr.drewN)) (hf7.mono fun _ _ f => f.elim)
                         have q0 := r7.cell a0 (fun f => f)
                         have q1 := r7.cell a1 (fun f => f)
                         have q2 := r7.cell b0 (fun f => f)
                         have q3 := r7.cell b1 (fun f => f)
                         have q4 := r7.cell b2 (fun f => f)
                         have q5 := r7.cell x0 (fun f => f)
                         have H7 := Lib.hid (And.intro hc7 (And.intro hr7 r7))
                         clear hf7 hc7 hr7 r7))
                  all_goals
                    go_wp2_with fail
                    go_roundw
                    case rel => exact ⟨k + 1, n, A5, c5, rfl, by go_num, I.out.skip hlt (HQ.out.symm ▸ HS.out) H7.out.2.2⟩
                    case measure => simp [intOf]; omega
                all_goals
                  have HS := Lib.hid (xsel_get (lo := lo) (hi := hi) hr (by
                    unfold inB kl
                    rw [h4]
                    first | (rw [h2]; rfl) | (rw [h3]; simp)))
                  clear hr
                  first
                    | subst h2
                    | have z2 : ((hi.size : Int) == 0) = false := by simp; exact h2
                  go_wp2_with fail
                  go_region_held3 (fun w' => w'.cell? ⟨w.heap.size, 0, none⟩ = some (.int .i64 base) ∧ w'.cell? ⟨w.heap.size, 1, none⟩ = some (.slice A ws.length c) ∧ w'.cell? ⟨w.heap.size + 1, 0, none⟩ = some (.slice B1 s.kc.length d1) ∧ w'.cell? ⟨w.heap.size + 1, 1, none⟩ = some (.slice B2 s.kc.length d2) ∧ w'.cell? ⟨w.heap.size + 1, 2, none⟩ = some (.int .i64 s.now) ∧ w'.cell? (ad.add k) = some (.string q))
                    (first
                      | exact ⟨a0, a1, b0, b1, b2, x0⟩
                      | exact ⟨q0, q1, q2, q3, q4, q5⟩)
                    (first
                      | (go_at_call 27; refine (HG.out _ (by repeat (first | assumption | exact Fr.refl _ _ | apply Fr.drew | apply Fr.drewN))).mono ?_; rintro e7 w7 ⟨⟨A7, c7, rfl, hc7, hr7⟩, hf7⟩
                         have r7 : Fr No wr w7 := Fr.trans (by repeat (first | exact Fr.refl _ _ | apply Fr.drew | apply Fr.drewN)) (hf7.mono fun _ _ f => f.elim)
                         have q0 := r7.cell a0 (fun f => f)
                         have q1 := r7.cell a1 (fun f => f)
                         have q2 := r7.cell b0 (fun f => f)
                         have q3 := r7.cell b1 (fun f => f)
                         have q4 := r7.cell b2 (fun f => f)
                         have q5 := r7.cell x0 (fun f => f)
                         have H7 := Lib.hid (And.intro hc7 (And.intro hr7 r7))
                         clear hf7 hc7 hr7 r7))
                  all_goals
                    go_wp2_with (first
                      | (at_builtin
                         have hfa := (Fr.refl No w7).alloc (.cells #[.string q, .slice A7 row.length c7] 107)
                         have HOO := (I.out.own.fr0 H7.out.2.2).fr0 hfa
                         have HRR := Row.single (tItem_mk (a := q) (A := A7) (c := c7) H7.out.1 ((H7.out.2.1.fr0 hfa).mono (G := fun i => (((F i ∨ FM i) ∧ i < w.heap.size) ∧ i < w4.heap.size ∨ w4.heap.size ≤ i) ∧ (Value.slice A5 n c5).ownBlock ≠ some i) fun i hi hl => by
                           have h1 := H.out.2.1.size
                           have h2 := H4.out.2.2.size
                           have h3 : i < w.heap.size := by rcases hi with hi | hi <;> exact hi.2
                           exact ⟨.inl ⟨⟨by rcases hi with hi | hi; exact .inl hi.1; exact .inr hi.1, h3⟩, by omega⟩, fun he => by have := I.out.box i he; omega⟩))
                         have HLL := XInv.lenle I.out
                         refine ow_append tItem (ys := [(q, row)]) HOO _ _ _ 40 rfl rfl Try.underlying70 info_ritem rfl (by decide) (by decide) rfl rfl rfl HRR (At.block (heap_alloc_new _ _)) (by simp only [List.length_singleton]; omega) ?_
                         clear HOO HRR HLL
                         intro A8 c8 w8 ho8 hg8 hat8
                         have hadd := I.out.add hlt (HQ.out.symm ▸ HS.out) hmost (H7.out.2.2.trans (hfa.mono fun _ _ f => f.elim)) (by rw [I.out.len]; rfl) ho8 hg8 hat8
                         have HA := Lib.hid hadd
                         clear ho8 hg8 hat8 hadd hfa))
                    go_roundw
                    case rel => exact ⟨k + 1, n + 1, A8, c8, by rw [I.out.len], by go_num, HA.out⟩
                    case measure => simp [intOf]; omega
              · have z1 : inB lo hi q = false := inB_lo h4
                have HS := Lib.hid (xsel_out (ws := ws) (s := s) (a := base) z1)
                clear hr z1
                go_wp2_with fail
                go_region_held3 (fun w' => w'.cell? ⟨w.heap.size, 0, none⟩ = some (.int .i64 base) ∧ w'.cell? ⟨w.heap.size, 1, none⟩ = some (.slice A ws.length c) ∧ w'.cell? ⟨w.heap.size + 1, 0, none⟩ = some (.slice B1 s.kc.length d1) ∧ w'.cell? ⟨w.heap.size + 1, 1, none⟩ = some (.slice B2 s.kc.length d2) ∧ w'.cell? ⟨w.heap.size + 1, 2, none⟩ = some (.int .i64 s.now) ∧ w'.cell? (ad.add k) = some (.string q))
                  (first
                    | exact ⟨a0, a1, b0, b1, b2, x0⟩
                    | exact ⟨q0, q1, q2, q3, q4, q5⟩)
                  (first
                    | (go_at_call 27; refine (HG.out _ (by repeat (first | assumption | exact Fr.refl _ _ | apply Fr.drew | apply Fr.drewN))).mono ?_; rintro e7 w7 ⟨⟨A7, c7, rfl, hc7, hr7⟩, hf7⟩
                       have r7 : Fr No wr w7 := Fr.trans (by repeat (first | exact Fr.refl _ _ | apply Fr.drew | apply Fr.drewN)) (hf7.mono fun _ _ f => f.elim)
                       have q0 := r7.cell a0 (fun f => f)
                       have q1 := r7.cell a1 (fun f => f)
                       have q2 := r7.cell b0 (fun f => f)
                       have q3 := r7.cell b1 (fun f => f)
                       have q4 := r7.cell b2 (fun f => f)
                       have q5 := r7.cell x0 (fun f => f)
                       have H7 := Lib.hid (And.intro hc7 (And.intro hr7 r7))
                       clear hf7 hc7 hr7 r7))
                all_goals
                  go_wp2_with fail
                  go_roundw
                  case rel => exact ⟨k + 1, n, A5, c5, rfl, by go_num, I.out.skip hlt (HQ.out.symm ▸ HS.out) H7.out.2.2⟩
                  case measure => simp [intOf]; omega
          · have HD := Lib.hid (I.out.stop (.inl (by omega)))
            go_wp2_with fail
            go_ret
            have hlen := I.out.len
            have hown := I.out.own
            have e := HD.out
            have e2 : xscan ws s base lo hi most = (KS.take k).filterMap (xsel ws s base lo hi) := by unfold xscan xall; rw [HR.out.2.1]; exact e
            rw [e2]
            subst hlen
            exact ⟨A5, c5, rfl, hown.rd.2.1, hown.rd.2.2.mono fun i hi _ => by (have h1 := H.out.2.1.size; have h2 := H4.out.2.2.size; rcases hi with hi | hi; exact .inl hi.1.1; exact .inr (by omega)), H.out.2.1.trans (hfr.mono fun _ _ f => f.elim)⟩
        · have hke : k = KS.length := by have := I.out.le; omega
          have HD := Lib.hid (I.out.stop (.inr hke))
          have HE := Lib.hid hke
          have hge : (KS.length : Int) ≤ (k : Int) := by omega
          clear hke
          go_wp2_with fail
          go_ret
          have hlen := I.out.len
          have hown := I.out.own
          have e := HD.out
          have e2 : xscan ws s base lo hi most = (KS.take k).filterMap (xsel ws s base lo hi) := by unfold xscan xall; rw [HR.out.2.1]; exact e
          rw [e2]
          subst hlen
          exact ⟨A5, c5, rfl, hown.rd.2.1, hown.rd.2.2.mono fun i hi _ => by (have h1 := H.out.2.1.size; have h2 := H4.out.2.2.size; rcases hi with hi | hi; exact .inl hi.1.1; exact .inr (by omega)), H.out.2.1.trans (hfr.mono fun _ _ f => f.elim)⟩
end Go.Proofs.Ytkcppngopdiljaa
/- Layer 14 (tx): Scan, walked. -/
set_option linter.unusedVariables false
set_option linter.unusedSimpArgs false
namespace Go.Proofs.Ytkcppngopdiljaa
open Go.RowKit

/-- Behind DeleteFunc. -/
structure ScStart (W : World) (L0 : List Item) (A : Option Addr) (n c : Nat) (wx : World) : Prop where
  own : Ow tItemO 65 wx (fun i => W.heap.size ≤ i) (.slice A n c) L0
  fr : Fr (fun i => W.heap.size ≤ i) W wx
theorem ScStart.mk' {W w1 wx : World} {L0 : List Item} {A : Option Addr} {n c n' : Nat} (h : Ow tItemO 65 wx (fun i => W.heap.size ≤ i) (.slice A n c) L0) (f1 : Fr No W w1) (f2 : Fr (fun k => (Value.slice A n' c).ownBlock = some k) w1 wx) (hown : ∀ k, (Value.slice A n' c).ownBlock = some k → W.heap.size ≤ k) : ScStart W L0 A n c wx :=
  ⟨h, (f1.mono fun _ _ f => f.elim).trans (f2.mono fun k _ e => .inl (hown k e))⟩

set_option maxHeartbeats 2000000 in
set_option maxRecDepth 100000 in
theorem tx_scan_gen {lo hi : ByteArray} {w : World} {FX : Nat → Prop} {xb : Nat} {sp : Option Addr} {base : Int} {ws : List Wr} {s : Sto} {m : Nat} (hT : TxAt w FX xb base ws) (hS : Rising (s.kc.map Prod.fst)) (hsc : ∀ w' N, Fr No w w' → Calls Try.prog 45 #[.pointer sp, .int .i64 base, .string lo, .string hi, .int .i64 N] w' fun e w'' =>
      ∃ A c, e = .returned (.slice A (s.scan base lo hi N).length c) ∧ Ow tItemO 65 w'' (fun i => w'.heap.size ≤ i) (.slice A (s.scan base lo hi N).length c) (s.scan base lo hi N) ∧ Fr No w' w'') (hs : s.Small m) (hm : m ≤ 100000000) (hn : ws.length ≤ 1000000) (hrow : ∀ x ∈ ws, x.row.length ≤ 1000000000) (most : Int) (h0 : 0 ≤ most) :
    Calls Try.prog 26 #[.pointer (some ⟨xb, 0, none⟩), .pointer sp, .string lo, .string hi, .int .i64 most] w fun e w' =>
      ∃ A c, e = .returned (.slice A (xscan ws s base lo hi most).length c) ∧ Ow tItemO 65 w' (fun i => w.heap.size ≤ i) (.slice A (xscan ws s base lo hi most).length c) (xscan ws s base lo hi most) ∧ Fr No w w' := by
  have hT : TxAt w (fun k => FX k ∧ k < w.heap.size) xb base ws := hT.mono fun k hk hl => ⟨hk, hl⟩
  obtain ⟨W, hW⟩ : ∃ W, W = w.alloc (.cells #[.pointer (some ⟨xb, 0, none⟩)] 23) := ⟨_, rfl⟩
  have hfW : Fr No w W := by rw [hW]; exact (Fr.refl No w).alloc _
  have hbW : W.heap[w.heap.size]? = some (.cells #[.pointer (some ⟨xb, 0, none⟩)] 23 (0, 0)) := by rw [hW]; exact heap_alloc_new w _
  have hTW := hT.fr0 hfW
  obtain ⟨h1, mb, l, h2, h3, h4, h5, h6⟩ := hT
  have b0 := blk_cell hbW 0
  have x0 := blk_cell (hfW.blk h4 (fun f => f)) 0
  have x1 := blk_cell (hfW.blk h4 (fun f => f)) 1
  simp at b0 x0 x1
  have hm5 : MapIs W mb l := h5.stab (hfW.block _ h5.lt (fun f => f))
  obtain ⟨es, clk, hes, hsz⟩ := run_map_len hm5
  have hln : ∀ n, (Builtin.len_ #[73] 3 #[.map (some mb)]).run Try.prog (W.drewN n) = .ok (.int .i64 (ws.length : Int)) (W.drewN n) := fun n => by
    have := run_len_map (P := Try.prog) (w := W.drewN n) 73 3 mb es clk (by kernel_rfl) hes
    rw [this, hsz.trans (h6.len h5.nodup)]; rfl
  have hln1 : (Builtin.len_ #[73] 3 #[.map (some mb)]).run Try.prog W.drew = .ok (.int .i64 (ws.length : Int)) W.drew := hln 1
  obtain ⟨K, hK⟩ : ∃ K : Int, K = if (1099511627776 : Int) < most then 1099511627776 else most := ⟨_, rfl⟩
  have hmin : ∀ (ts : Array TypeId) (t : TypeId) (w : World), (Builtin.min_ ts t #[.int .i64 most, .int .i64 1099511627776]).run Try.prog w = .ok (.int .i64 K) w := fun ts t w => by
    rw [run_min_int2, ← hK]
  have hK0 : 0 ≤ K ∧ K ≤ 1099511627776 := by rw [hK]; split <;> omega
  obtain ⟨hK1, hK2⟩ := hK0
  have hsum : IntKind.i64.wrap (K + (ws.length : Int)) = K + (ws.length : Int) := IntWalk.i64_in _ (by omega)
  have hlnF : ∀ w' : World, w'.heap[mb]? = W.heap[mb]? → (Builtin.len_ #[73] 3 #[.map (some mb)]).run Try.prog w' = .ok (.int .i64 (ws.length : Int)) w' := fun w' f => by
    have := run_len_map (P := Try.prog) (w := w') 73 3 mb es clk (by kernel_rfl) (f.trans hes)
    rw [this, hsz.trans (h6.len h5.nodup)]; rfl
  have HLN := Lib.hid hlnF
  have HSL := Lib.hid (scan_len hs base lo hi (K + (ws.length : Int)))
  clear hlnF
  obtain ⟨L0, hL0⟩ : ∃ L0, (s.scan base lo hi (K + (ws.length : Int))).filter (fun x => !ownP ws x.1) = L0 := ⟨_, rfl⟩
  have HL0 := Lib.hid hL0
  have HSR := Lib.hid (And.intro hS (And.intro hs hK))
  have HF0 := Lib.hid (scan_free (ws := ws) hS hL0)
  have HROW := Lib.hid hrow
  have hlen : ∀ done n v wr r, ScInv W mb r l ws lo hi L0 done n v wr → (L0 ++ done.filterMap (selK ws lo hi)).length ≤ 1000000000 := fun done n v wr r I => by
    have a1 := List.length_filterMap_le (selK ws lo hi) done
    have a2 := I.rng.len
    have a3 := h6.len h5.nodup
    have a4 : L0.length ≤ m := by rw [← hL0]; exact Nat.le_trans (List.length_filter_le _ _) (scan_len hs base lo hi _)
    rw [List.length_append]; omega
  have LEN := Lib.hid hlen
  clear hlen
  clear hL0
  have hWs : W.heap.size = w.heap.size + 1 := by rw [hW]; simp
  have hmW : mb < W.heap.size := by have := h5.lt; omega
  have hxW : xb < w.heap.size := blk_lt h4
  have hTB : TxAt W (fun k => FX k ∧ k < w.heap.size) xb base ws := hTW
  have hscan := fun w' (f : Fr No W w') => hsc w' (K + (ws.length : Int)) (hfW.trans (f.mono fun _ _ f => f.elim))
  have hlt5 : mb < w.heap.size := h5.lt
  have H := Lib.hid (And.intro hscan (And.intro hTB (And.intro hfW (And.intro hm5 (And.intro h6 (And.intro hbW hS))))))
  have hb0 := b0
  clear hscan hsc hTB hfW hm5 h6 h5 h4 h3 h2 h1 hbW hS hes hsz hln hTW hK hs hrow
  go_enter Try.func26, Try.ntmps26
  go_wp2_with fail
  rw [← hW]
  clear hW
  go_upto_region 3 with fail
  go_cut [11] (fun s11 wx => ∃ (A : Option Addr) (n c : Nat) (wy : World), s11 = .slice A n c ∧ wy = wx ∧ Hid (ScStart W L0 A n c wy))
  case first =>
   go_region_held3 (fun w' => w'.cell? ⟨w.heap.size, 0, none⟩ = some (.pointer (some ⟨xb, 0, none⟩)) ∧ w'.cell? ⟨xb, 0, none⟩ = some (.int .i64 base) ∧ w'.cell? ⟨xb, 1, none⟩ = some (.map (some mb)) ∧ (Builtin.len_ #[73] 3 #[.map (some mb)]).run Try.prog w' = .ok (.int .i64 (ws.length : Int)) w')
     (first
       | exact ⟨b0, x0, x1, hln1⟩
       | exact ⟨q0, q1, q2, q3⟩)
     (first
       | (go_at_call 45; refine (H.out.1 _ (by repeat (first | exact Fr.refl _ _ | apply Fr.drew | apply Fr.drewN))).mono ?_; rintro e1 w1 ⟨A1, c1, rfl, ho1, hf1⟩
          have g1 : Fr No W w1 := Fr.trans (by repeat (first | assumption | exact Fr.refl _ _ | apply Fr.drew | apply Fr.drewN)) (hf1.mono fun _ _ f => f.elim)
          have q0 := g1.cell b0 (fun f => f)
          have q1 := g1.cell x0 (fun f => f)
          have q2 := g1.cell x1 (fun f => f)
          have q3 := HLN.out _ (g1.block mb hmW (fun f => f))
          have hown : ∀ k, (Value.slice A1 (s.scan base lo hi (K + (ws.length : Int))).length c1).ownBlock = some k → W.heap.size ≤ k := fun k h => (ho1.own h).1
          have hdel := delete_ok 46 #[.pointer (some ⟨w.heap.size, 0, none⟩)] (ownP ws) ho1 (Nat.le_trans HSL.out (by omega)) Try.call46 (fun i hi A' n c' w' f =>
            scan1_fn ((H.out.2.1.fr0 g1).fr f fun k hk h => by have := hown _ h; have := hk.2; omega) (f.cell q0 (fun h => by have h2 : W.heap.size ≤ w.heap.size := hown _ h; omega)) _ A' n c')
          have HO1 := Lib.hid (And.intro hdel (And.intro g1 (And.intro hown ho1)))
          clear ho1 hf1 g1 hdel hown)
       | (go_at_call 44
          refine HO1.out.1.mono ?_
          rintro e2 w2 ⟨n2, rfl, ho2, hf2⟩
          rw [HL0.out] at ho2
          have q0 : w2.cell? ⟨w.heap.size, 0, none⟩ = some (.pointer (some ⟨xb, 0, none⟩)) := hf2.cell q0 (fun h => by have h2 : W.heap.size ≤ w.heap.size := HO1.out.2.2.1 _ h; omega)
          have q1 : w2.cell? ⟨xb, 0, none⟩ = some (.int .i64 base) := hf2.cell q1 (fun h => by have h2 : W.heap.size ≤ xb := HO1.out.2.2.1 _ h; omega)
          have q2 : w2.cell? ⟨xb, 1, none⟩ = some (.map (some mb)) := hf2.cell q2 (fun h => by have h2 : W.heap.size ≤ xb := HO1.out.2.2.1 _ h; omega)
          have q3 := HLN.out w2 ((hf2.block mb (by have := HO1.out.2.1.size; omega) (fun h => by have h2 := HO1.out.2.2.1 _ h; omega)).trans (HO1.out.2.1.block mb hmW (fun f => f)))
          have HO2 := Lib.hid (And.intro ho2 hf2)
          clear ho2 hf2))
   all_goals
     go_wp2_with fail
     go_meet
     exact ⟨A1, n2, c1, _, rfl, rfl, ScStart.mk' HO2.out.1 HO1.out.2.1 HO2.out.2 HO1.out.2.2.1⟩
  case rest =>
    obtain ⟨A, n, c, wx, rfl, hwx, S⟩ := hcut
    subst hwx
    have b0 : wx.cell? ⟨w.heap.size, 0, none⟩ = some (.pointer (some ⟨xb, 0, none⟩)) := S.out.fr.cell b0 (fun h => by have h2 : W.heap.size ≤ w.heap.size := h; omega)
    have x1 : wx.cell? ⟨xb, 1, none⟩ = some (.map (some mb)) := S.out.fr.cell x1 (fun h => by have h2 : W.heap.size ≤ xb := h; omega)
    have hmI : MapIs wx mb l := H.out.2.2.2.1.stab (S.out.fr.block mb hmW (fun h => by omega))
    have HM := Lib.hid (And.intro hmI (And.intro hmI.nodup S.out.fr.size))
    clear hmI
    go_wp2_with (at_range; refine wpList_mapIs_range rfl _ 73 rfl _ _ Try.underlying73 rfl HM.out.1 ?_; intro w3 hrg hf3 hs3; have HR := Lib.hid (And.intro hrg hf3); clear hrg hf3 hs3)
    go_frame
    go_loopw [11] (fun v wr => ∃ (done : List (ByteArray × Value)) (n : Nat) (A : Option Addr) (c : Nat), v = .slice A n c ∧ Hid (ScInv W mb wx.heap.size l ws lo hi L0 done n (.slice A n c) wr)) (fun _ wr => wr.rangeLeft mb wx.heap.size)
    case atStart =>
      obtain rfl := S.out.own.rd.1
      exact ⟨[], _, A, c, rfl, HR.out.1, by simp, by simpa using (S.out.own.mono fun k hk hl => ⟨hk, by omega⟩).fr0 HR.out.2, S.out.fr.trans (HR.out.2.mono fun _ _ f => f.elim)⟩
    case round =>
      obtain ⟨done, n, A, c, rfl, I⟩ := hrel
      have hheld : ∀ p ∈ l, ∃ x, wfind p.1 ws = some x ∧ x.key = p.1 ∧ WrIs wr (fun i => i < w.heap.size) p.2 x := fun p hp => by
        obtain ⟨x, a1, a2, a3⟩ := H.out.2.2.2.2.1.entry HM.out.2.1 hp
        refine ⟨x, a1, a2, ((a3.mono (G := fun i => i < w.heap.size) fun i hi _ => hi.1.2).stab fun k hk hl => ?_)⟩
        exact ((H.out.2.2.1.mono (G := fun i => W.heap.size ≤ i) fun _ _ f => f.elim).trans (I.out.fr.mono fun k _ h => .inl h)).block k hl (fun h => by have hk' : k < w.heap.size := hk; have h' : W.heap.size ≤ k := h; omega)
      have HH := Lib.hid hheld
      clear hheld
      go_wp2_with (at_next; refine wpList_mapIs_next rfl _ rfl rfl I.out.rng (fun hperm => ?_) (fun p w5 hp hrg hf5 hs5 hent => ?_); (have HP := Lib.hid hperm; clear hperm); rotate_left; (obtain ⟨x, hx, hkey, A', c', hv, hc', hrd⟩ := HH.out p hp; obtain ⟨k, v5⟩ := p; dsimp only at hx hkey hv; subst hv; subst hkey; obtain ⟨key, row, gone⟩ := x; dsimp only at hx hc' hrd hent; have HN := Lib.hid (And.intro hp (And.intro hrg (And.intro hf5 (And.intro hs5 (And.intro hx (And.intro hc' hrd)))))); clear hp hrg hf5 hs5 hx hc' hrd; cases gone))
      · have hs := selK_skip (v := .agg #[.string key, .slice A' row.length c', .bool false]) (lo := lo) (hi := hi) HN.out.2.2.2.2.1 (.inr (inB_lo (by assumption)))
        have HS := Lib.hid hs
        clear hs
        go_roundw
        case rel => exact ⟨_, n, A, c, rfl, I.out.skip (Nat.le_trans S.out.fr.size (Nat.le_refl _)) HN.out.2.1 HN.out.2.2.1 HS.out ((Fr.refl No w5).alloc _)⟩
        case measure =>
          have a1 := I.out.rng.left
          have a2 := (HN.out.2.1.fr ((Fr.refl No w5).alloc (.cells #[.string key, .slice A' row.length c', .bool false] 43)) (fun f => f) (fun f => f)).left
          simp only [List.length_append, List.length_singleton] at a2
          omega
      · have hin := selK_in (v := .agg #[.string key, .slice A' row.length c', .bool false]) HN.out.2.2.2.2.1 (inB_yes (lo := lo) (hi := hi) (by assumption) (Or.inl (by simpa using (by assumption : hi.toList = []))))
        obtain ⟨wb, hwb⟩ : ∃ wb, wb = w5.alloc (.cells #[.string key, .slice A' row.length c', .bool false] 43) := ⟨_, rfl⟩
        have hfb : Fr No w5 wb := by rw [hwb]; exact (Fr.refl No w5).alloc _
        have hbb : wb.heap[w5.heap.size]? = some (.cells #[.string key, .slice A' row.length c', .bool false] 43 (0, 0)) := by rw [hwb]; exact heap_alloc_new w5 _
        have k0 := blk_cell hbb 0
        have k1 := blk_cell hbb 1
        simp at k0 k1
        have hcl := clone_ok (c := c') (((HN.out.2.2.2.2.2.2.fr HN.out.2.2.1 (fun k hk e => by have hk' : k < w.heap.size := hk; have := HM.out.2.2; omega)).fr0 hfb).fr0 ((Fr.refl No wb).drew)) rfl (by have := HROW.out _ (wfind_some HN.out.2.2.2.2.1).1; simp only [] at this; omega)
        have hI := I.out
        have HB := Lib.hid (And.intro hcl (And.intro hfb (And.intro hin hI)))
        clear hcl hfb hin hI hbb
        rw [← hwb]
        clear hwb hent
        go_region_law
          (first
            | (go_simp; go_at_call 31; refine HB.out.1.mono ?_; rintro e w6 ⟨A1, c1, rfl, ho6, hf6⟩
               have g6 : Fr No wb w6 := ((Fr.refl No wb).drew).trans (hf6.mono fun _ _ f => f.elim)
               have k0 := g6.cell k0 (fun f => f)
               have HO6 := Lib.hid (And.intro ho6 g6)
               clear ho6 hf6 g6)
            | (refine ow_append_step tItemO (ys := [(key, row)]) (F := fun i => W.heap.size ≤ i ∧ i ≠ wx.heap.size) (((HB.out.2.2.2.own.fr HN.out.2.2.1 (fun k hk => hk.2)).fr0 HB.out.2.1).fr0 (by repeat (first | exact HO6.out.2 | apply Fr.alloc | apply Fr.drew | apply Fr.drewN))) _ _ _ 40 rfl rfl Try.underlying62 info_item rfl (by decide) (by decide) rfl rfl rfl
                 (Row.single (tItemO_mk (A := A1) (c := c1) (by
                    refine ((HO6.out.1.fr0 (by repeat (first | exact Fr.refl _ _ | apply Fr.alloc | apply Fr.drew | apply Fr.drewN)))).mono fun k hk _ => ?_
                    have hk' : wb.heap.size ≤ k := hk
                    have a1 := HB.out.2.1.size
                    have a2 := HN.out.2.2.1.size
                    have a3 := HB.out.2.2.2.fr.size
                    have a4 := HN.out.2.1.lt
                    exact ⟨⟨by omega, by omega⟩, fun he => by have := (HB.out.2.2.2.own.own he).2; omega⟩))) (At.block (heap_alloc_new _ _)) (by have := LEN.out _ _ _ _ _ I.out; simp only [List.length_singleton]; omega) ?_
               intro A3 c3 w7 hown7 hg7 hat7
               have hadd := HB.out.2.2.2.add hmW HM.out.2.2 HN.out.2.1 HN.out.2.2.1 HN.out.2.2.2.1 HB.out.2.2.1 (HB.out.2.1.trans (Fr.mono (F := No) (by repeat (first | exact HO6.out.2 | apply Fr.alloc | apply Fr.drew | apply Fr.drewN)) fun _ _ f => f.elim)) (by rw [HB.out.2.2.2.len]; rfl) hown7 hg7
               have HA := Lib.hid hadd
               clear hadd hown7 hg7 hat7))
        all_goals
          go_wp2_with fail
          go_roundw
          case rel => (repeat apply Exists.intro); exact ⟨⟨_, n + 1, A3, c3, by rw [HB.out.2.2.2.len, List.length_append], HA.out⟩, rfl⟩
          case measure =>
            have a1 := HB.out.2.2.2.rng.left
            have a2 := HA.out.rng.left
            simp only [List.length_append, List.length_singleton] at a2
            omega
      · have hin := selK_in (v := .agg #[.string key, .slice A' row.length c', .bool false]) HN.out.2.2.2.2.1 (inB_yes (lo := lo) (hi := hi) (by assumption) (by assumption))
        obtain ⟨wb, hwb⟩ : ∃ wb, wb = w5.alloc (.cells #[.string key, .slice A' row.length c', .bool false] 43) := ⟨_, rfl⟩
        have hfb : Fr No w5 wb := by rw [hwb]; exact (Fr.refl No w5).alloc _
        have hbb : wb.heap[w5.heap.size]? = some (.cells #[.string key, .slice A' row.length c', .bool false] 43 (0, 0)) := by rw [hwb]; exact heap_alloc_new w5 _
        have k0 := blk_cell hbb 0
        have k1 := blk_cell hbb 1
        simp at k0 k1
        have hcl := clone_ok (c := c') (((HN.out.2.2.2.2.2.2.fr HN.out.2.2.1 (fun k hk e => by have hk' : k < w.heap.size := hk; have := HM.out.2.2; omega)).fr0 hfb).fr0 ((Fr.refl No wb).drew)) rfl (by have := HROW.out _ (wfind_some HN.out.2.2.2.2.1).1; simp only [] at this; omega)
        have hI := I.out
        have HB := Lib.hid (And.intro hcl (And.intro hfb (And.intro hin hI)))
        clear hcl hfb hin hI hbb
        rw [← hwb]
        clear hwb hent
        go_region_law
          (first
            | (go_simp; go_at_call 31; refine HB.out.1.mono ?_; rintro e w6 ⟨A1, c1, rfl, ho6, hf6⟩
               have g6 : Fr No wb w6 := ((Fr.refl No wb).drew).trans (hf6.mono fun _ _ f => f.elim)
               have k0 := g6.cell k0 (fun f => f)
               have HO6 := Lib.hid (And.intro ho6 g6)
               clear ho6 hf6 g6)
            | (refine ow_append_step tItemO (ys := [(key, row)]) (F := fun i => W.heap.size ≤ i ∧ i ≠ wx.heap.size) (((HB.out.2.2.2.own.fr HN.out.2.2.1 (fun k hk => hk.2)).fr0 HB.out.2.1).fr0 (by repeat (first | exact HO6.out.2 | apply Fr.alloc | apply Fr.drew | apply Fr.drewN))) _ _ _ 40 rfl rfl Try.underlying62 info_item rfl (by decide) (by decide) rfl rfl rfl
                 (Row.single (tItemO_mk (A := A1) (c := c1) (by
                    refine ((HO6.out.1.fr0 (by repeat (first | exact Fr.refl _ _ | apply Fr.alloc | apply Fr.drew | apply Fr.drewN)))).mono fun k hk _ => ?_
                    have hk' : wb.heap.size ≤ k := hk
                    have a1 := HB.out.2.1.size
                    have a2 := HN.out.2.2.1.size
                    have a3 := HB.out.2.2.2.fr.size
                    have a4 := HN.out.2.1.lt
                    exact ⟨⟨by omega, by omega⟩, fun he => by have := (HB.out.2.2.2.own.own he).2; omega⟩))) (At.block (heap_alloc_new _ _)) (by have := LEN.out _ _ _ _ _ I.out; simp only [List.length_singleton]; omega) ?_
               intro A3 c3 w7 hown7 hg7 hat7
               have hadd := HB.out.2.2.2.add hmW HM.out.2.2 HN.out.2.1 HN.out.2.2.1 HN.out.2.2.2.1 HB.out.2.2.1 (HB.out.2.1.trans (Fr.mono (F := No) (by repeat (first | exact HO6.out.2 | apply Fr.alloc | apply Fr.drew | apply Fr.drewN)) fun _ _ f => f.elim)) (by rw [HB.out.2.2.2.len]; rfl) hown7 hg7
               have HA := Lib.hid hadd
               clear hadd hown7 hg7 hat7))
        all_goals
          go_wp2_with fail
          go_roundw
          case rel => (repeat apply Exists.intro); exact ⟨⟨_, n + 1, A3, c3, by rw [HB.out.2.2.2.len, List.length_append], HA.out⟩, rfl⟩
          case measure =>
            have a1 := HB.out.2.2.2.rng.left
            have a2 := HA.out.rng.left
            simp only [List.length_append, List.length_singleton] at a2
            omega
      · have hs := selK_skip (v := .agg #[.string key, .slice A' row.length c', .bool false]) (lo := lo) (hi := hi) HN.out.2.2.2.2.1 (.inr (inB_hi (by have := ‹hi.toList.isEmpty = false ∧ Op.bytesLess key.toList hi.toList = false›; exact this.1) (by have := ‹hi.toList.isEmpty = false ∧ Op.bytesLess key.toList hi.toList = false›; exact this.2)))
        have HS := Lib.hid hs
        clear hs
        go_roundw
        case rel => exact ⟨_, n, A, c, rfl, I.out.skip (Nat.le_trans S.out.fr.size (Nat.le_refl _)) HN.out.2.1 HN.out.2.2.1 HS.out ((Fr.refl No w5).alloc _)⟩
        case measure =>
          have a1 := I.out.rng.left
          have a2 := (HN.out.2.1.fr ((Fr.refl No w5).alloc (.cells #[.string key, .slice A' row.length c', .bool false] 43)) (fun f => f) (fun f => f)).left
          simp only [List.length_append, List.length_singleton] at a2
          omega
      · have hs := selK_skip (v := .agg #[.string key, .slice A' row.length c', .bool true]) (lo := lo) (hi := hi) HN.out.2.2.2.2.1 (.inl rfl)
        have HS := Lib.hid hs
        clear hs
        go_roundw
        case rel => exact ⟨_, n, A, c, rfl, I.out.skip (Nat.le_trans S.out.fr.size (Nat.le_refl _)) HN.out.2.1 HN.out.2.2.1 HS.out ((Fr.refl No w5).alloc _)⟩
        case measure =>
          have a1 := I.out.rng.left
          have a2 := (HN.out.2.1.fr ((Fr.refl No w5).alloc (.cells #[.string key, .slice A' row.length c', .bool true] 43)) (fun f => f) (fun f => f)).left
          simp only [List.length_append, List.length_singleton] at a2
          omega
      · obtain ⟨hf1, hf2⟩ := HF0.out
        have hnd := selK_nodup (lo := lo) (hi := hi) HM.out.2.1 HP.out hf1 hf2
        obtain ⟨XS, hXS⟩ : ∃ XS, L0 ++ done.filterMap (selK ws lo hi) = XS := ⟨_, rfl⟩
        have hown := I.out.own
        have hln := LEN.out _ _ _ _ _ I.out
        rw [hXS] at hnd hown hln
        obtain rfl := hown.rd.1
        have hsort := sort_items hown (by omega) hnd
        obtain ⟨U, hU, hU1, hU2⟩ : ∃ U : Nat, (if most < (XS.length : Int) then most else (XS.length : Int)) = (U : Int) ∧ U ≤ XS.length ∧ ∀ ys : List Item, ys.length = XS.length → ys.take U = ys.take most.toNat := by
          by_cases hc : most < (XS.length : Int)
          · exact ⟨most.toNat, by rw [if_pos hc]; omega, by omega, fun _ _ => rfl⟩
          · exact ⟨XS.length, by rw [if_neg hc], Nat.le_refl _, fun ys h => by rw [List.take_of_length_le (by omega), List.take_of_length_le (by omega)]⟩
        have hmin2 : ∀ (ts : Array TypeId) (t : TypeId) (w : World), (Builtin.min_ ts t #[.int .i64 (XS.length : Int), .int .i64 most]).run Try.prog w = .ok (.int .i64 (U : Int)) w := fun ts t w => by
          rw [run_min_int2, hU]
        have hcut2 := fun W => cut_hi_at (P := Try.prog) 62 65 2 .i64 Try.underlying62 (by kernel_rfl) A XS.length c U hU1 hown.rd.2.1 W
        have hown2 : ∀ k, (Value.slice A XS.length c).ownBlock = some k → W.heap.size ≤ k := fun k hk => (hown.own hk).1.1
        have HX := Lib.hid (And.intro hsort (And.intro hU2 (And.intro hXS (And.intro hown2 I.out.fr))))
        have HU := Lib.hid hU1
        clear hsort hU hU2 hXS hown hnd hown2 hln hU1 hf1 hf2
        refine HX.out.1.mono ?_
        rintro e9 w9 ⟨rfl, ys, hperm, hrise, ho9, hf9⟩
        have HY := Lib.hid (And.intro hperm (And.intro hrise (And.intro ho9 hf9)))
        clear hperm hrise ho9 hf9
        go_wp2_with fail
        go_ret
        have hlen := HY.out.1.length_eq
        have e1 := HX.out.2.1 ys hlen
        have e2 := scan_fin H.out.2.2.2.2.1 HSR.out.1 HSR.out.2.1 hm h0 HSR.out.2.2 HL0.out HP.out (by rw [HX.out.2.2.1]; exact HY.out.1) HY.out.2.1
        have e3 : (xscan ws s base lo hi most).length = U := by rw [← e2, ← e1, List.length_take, hlen]; exact Nat.min_eq_left HU.out
        have e4 := HY.out.2.2.1.takeN HU.out
        rw [e1, e2] at e4
        exact ⟨A, c, by rw [e3]; rfl, by rw [e3]; exact e4.mono fun k hk _ => by have := hk.1; omega, (H.out.2.2.1.trans (HX.out.2.2.2.2.mono fun k hk h => .inr (by have h' : W.heap.size ≤ k := h; omega))).trans (HY.out.2.2.2.mono fun k _ h => .inr (by have := HX.out.2.2.2.1 k h; omega))⟩

theorem tx_scan_ok {w : World} {FX FS : Nat → Prop} {xb sb : Nat} {base : Int} {ws : List Wr} {s : Sto} {m : Nat} (hT : TxAt w FX xb base ws) (hS : StoreAt w FS sb s) (hs : s.Small m) (hm : m ≤ 100000000) (hn : ws.length ≤ 1000000) (hrow : ∀ x ∈ ws, x.row.length ≤ 1000000000) (lo hi : ByteArray) (most : Int) :
    Calls Try.prog 26 #[.pointer (some ⟨xb, 0, none⟩), .pointer (some ⟨sb, 0, none⟩), .string lo, .string hi, .int .i64 most] w fun e w' =>
      ∃ A c, e = .returned (.slice A (xscan ws s base lo hi most).length c) ∧ Ow tItemO 65 w' (fun i => w.heap.size ≤ i) (.slice A (xscan ws s base lo hi most).length c) (xscan ws s base lo hi most) ∧ Fr No w w' := by
  by_cases h0 : 0 ≤ most
  · exact tx_scan_gen hT hS.rising (fun w' N f => store_scan_own (hS.fr0 f) hs hm base lo hi N) hs hm hn hrow most h0
  · refine (tx_scan_neg xb _ lo hi most (by omega) w).mono ?_
    rintro e w' ⟨rfl, hf⟩
    have e : xscan ws s base lo hi most = [] := by unfold xscan; rw [show most.toNat = 0 by omega, List.take_zero]
    rw [e]
    exact ⟨none, 0, rfl, Ow.nil, hf⟩
theorem tx_scan_nostore {w : World} {FX : Nat → Prop} {xb : Nat} {base : Int} {ws : List Wr} (hT : TxAt w FX xb base ws) (hn : ws.length ≤ 1000000) (hrow : ∀ x ∈ ws, x.row.length ≤ 1000000000) (lo hi : ByteArray) (most : Int) :
    Calls Try.prog 26 #[.pointer (some ⟨xb, 0, none⟩), .pointer none, .string lo, .string hi, .int .i64 most] w fun e w' =>
      ∃ A c, e = .returned (.slice A (xscan ws Sto.empty base lo hi most).length c) ∧ Ow tItemO 65 w' (fun i => w.heap.size ≤ i) (.slice A (xscan ws Sto.empty base lo hi most).length c) (xscan ws Sto.empty base lo hi most) ∧ Fr No w w' := by
  by_cases h0 : 0 ≤ most
  · refine tx_scan_gen (s := Sto.empty) (m := 0) hT List.Pairwise.nil (fun w' N f => (store_scan_nil base N lo hi w').mono ?_) ⟨Int.le_refl _, Int.le_refl _, Nat.le_refl _, (fun p hp => by cases hp), (fun p hp => by cases hp)⟩ (by omega) hn hrow most h0
    rintro e w' ⟨rfl, rfl⟩
    have e : Sto.empty.scan base lo hi N = [] := by unfold Sto.scan Sto.all; simp [Sto.empty]
    rw [e]
    exact ⟨none, 0, rfl, Ow.nil, Fr.refl _ _⟩
  · refine (tx_scan_neg xb _ lo hi most (by omega) w).mono ?_
    rintro e w' ⟨rfl, hf⟩
    have e : xscan ws Sto.empty base lo hi most = [] := by unfold xscan; rw [show most.toNat = 0 by omega, List.take_zero]
    rw [e]
    exact ⟨none, 0, rfl, Ow.nil, hf⟩
end Go.Proofs.Ytkcppngopdiljaa
/- Layer 14 (tx): Get, of a key that it wrote. -/
set_option linter.unusedVariables false
set_option linter.unusedSimpArgs false
namespace Go.Proofs.Ytkcppngopdiljaa
open Go.RowKit

set_option maxHeartbeats 1000000 in
set_option maxRecDepth 100000 in
theorem tx_get_own {w : World} {F : Nat → Prop} {xb : Nat} {base : Int} {ws : List Wr} {y : Wr} {s : Option Addr} (key : ByteArray) (h : TxAt w F xb base ws) (hf : wfind key ws = some y) (hl : y.row.length ≤ 1000000000) :
    Calls Try.prog 18 #[.pointer (some ⟨xb, 0, none⟩), .pointer s, .string key] w fun e w' => ∃ A c, e = .returned (.tuple #[.slice A y.row.length c, .bool (!y.gone)]) ∧ Ow Ty.u8 5 w' (fun i => w.heap.size ≤ i) (.slice A y.row.length c) y.row ∧ Fr No w w' := by
  have hown := tx_own key h
  rw [hf] at hown
  have H := Lib.hid hown
  clear hown h hf
  go_enter Try.func18, Try.ntmps18
  go_wp2_with fail
  refine H.out.mono ?_
  rintro e1 w1 ⟨⟨k, A, n, c, g, rfl, hy⟩, hf1⟩
  obtain ⟨rfl, rfl, rfl, hc, hr⟩ := hy y rfl
  obtain ⟨W, hW⟩ : ∃ W, W = w1.alloc (.cells #[.string y.key, .slice A y.row.length c, .bool y.gone] 43) := ⟨_, rfl⟩
  have hfW : Fr No w1 W := by rw [hW]; exact (Fr.refl No w1).alloc _
  have hbW : W.heap[w1.heap.size]? = some (.cells #[.string y.key, .slice A y.row.length c, .bool y.gone] 43 (0, 0)) := by rw [hW]; exact heap_alloc_new w1 _
  have b1 := blk_cell hbW 1
  have b2 := blk_cell hbW 2
  simp at b1 b2
  have hcl := fun w' (f : Fr No W w') => clone_ok (w := w') (c := c) ((hr.fr0 hfW).fr0 f) rfl (by omega)
  have HC := Lib.hid (And.intro hcl (hf1.trans (hfW.mono fun _ _ f => f.elim)))
  clear hcl hr hf1 hfW hbW hy
  go_wp2_with fail
  rw [← hW]
  clear hW
  go_region_held3 (fun w' => w'.cell? ⟨w1.heap.size, 1, none⟩ = some (.slice A y.row.length c) ∧ w'.cell? ⟨w1.heap.size, 2, none⟩ = some (.bool y.gone))
    (first
      | exact ⟨b1, b2⟩
      | exact ⟨q1, q2⟩)
    (first
      | (go_at_call 31; refine (HC.out.1 _ (by repeat (first | exact Fr.refl _ _ | apply Fr.drew | apply Fr.drewN))).mono ?_; rintro e2 w2 ⟨A2, c2, rfl, ho2, hf2⟩
         have hg2 : Fr No W w2 := Fr.trans (by repeat (first | exact Fr.refl _ _ | apply Fr.drew | apply Fr.drewN)) (hf2.mono fun _ _ f => f.elim)
         have q1 := hg2.cell b1 (fun f => f)
         have q2 := hg2.cell b2 (fun f => f)
         have H2 := Lib.hid (And.intro ho2 hg2)
         clear ho2 hf2 hg2))
  all_goals
    go_wp2_with fail
    go_ret2
    have hwz := HC.out.2.size
    exact ⟨A2, c2, rfl, H2.out.1.mono fun i hi _ => by have hi' : W.heap.size ≤ i := hi; show w.heap.size ≤ i; omega, HC.out.2.trans (H2.out.2.mono fun _ _ f => f.elim)⟩
end Go.Proofs.Ytkcppngopdiljaa
/- Layer 14 (tx): Get, of a key that it did not write; of no transaction. -/
set_option linter.unusedVariables false
set_option linter.unusedSimpArgs false
namespace Go.Proofs.Ytkcppngopdiljaa
open Go.RowKit

set_option maxHeartbeats 1000000 in
set_option maxRecDepth 100000 in
theorem tx_get_none {w : World} {F : Nat → Prop} {xb : Nat} {base : Int} {ws : List Wr} {sp : Option Addr} {o : Option Bs} (key : ByteArray) (h : TxAt w F xb base ws) (hf : wfind key ws = none)
    (hg : ∀ w', Fr No w w' → Calls Try.prog 36 #[.pointer sp, .int .i64 base, .string key] w' fun e w'' => RowOk w' w'' e o ∧ Fr No w' w'') :
    Calls Try.prog 18 #[.pointer (some ⟨xb, 0, none⟩), .pointer sp, .string key] w fun e w' => RowOk w w' e o ∧ Fr No w w' := by
  have hown := tx_own key h
  rw [hf] at hown
  have hx : ∀ w', Fr No w w' → w'.cell? ⟨xb, 0, none⟩ = some (.int .i64 base) := fun w' f => by
    obtain ⟨_, mb, l, _, _, h4, _, _⟩ := h
    have := blk_cell (f.blk h4 (fun f => f)) 0
    simpa using this
  have H := Lib.hid (And.intro hown (And.intro hx hg))
  clear hown h hf hx hg
  go_enter Try.func18, Try.ntmps18
  go_wp2_with fail
  refine H.out.1.mono ?_
  rintro e1 w1 ⟨⟨k, A, n, c, g, rfl, _⟩, hf1⟩
  obtain ⟨W, hW⟩ : ∃ W, W = w1.alloc (.cells #[.string k, .slice A n c, .bool g] 43) := ⟨_, rfl⟩
  have hfW : Fr No w W := by rw [hW]; exact hf1.alloc _
  have x0 := H.out.2.1 W hfW
  rw [hW] at x0
  have hgW := H.out.2.2 W hfW
  have HG := Lib.hid (And.intro hgW hfW)
  clear hgW hfW hf1
  go_wp2_with fail
  rw [← hW]
  clear hW
  refine HG.out.1.mono ?_
  rintro e2 w2 ⟨⟨A2, c2, rfl, ho2⟩, hf2⟩
  have HR := Lib.hid (And.intro (ho2.mono (G := fun i => w.heap.size ≤ i) fun i hi _ => by have := HG.out.2.size; have hi' : W.heap.size ≤ i := hi; omega) (HG.out.2.trans (hf2.mono fun _ _ f => f.elim)))
  clear ho2 hf2
  go_wp2_with fail
  go_ret2
  exact ⟨⟨A2, c2, rfl, HR.out.1⟩, HR.out.2⟩
theorem tx_get_nil (sp : Option Addr) (key : ByteArray) (w : World) : Calls Try.prog 18 #[.pointer none, .pointer sp, .string key] w fun e w' => e = .returned (.tuple #[.slice none 0 0, .bool false]) ∧ Fr No w w' := by
  have H := Lib.hid (tx_own_nil key w)
  go_enter Try.func18, Try.ntmps18
  go_wp2_with fail
  refine H.out.mono ?_
  rintro e1 w1 ⟨⟨k, A, n, c, g, rfl, _⟩, hf1⟩
  have HF := Lib.hid hf1
  clear hf1
  go_wp2_with fail
  go_ret2
  exact ⟨rfl, HF.out.alloc _⟩
end Go.Proofs.Ytkcppngopdiljaa
/- Laws of layer 14 (tx): TxSees. -/
set_option linter.unusedVariables false
set_option linter.unusedSimpArgs false
namespace Go.Proofs.Ytkcppngopdiljaa
open Go.RowKit

theorem wrAll_gone (l : List Actn) : ∀ x ∈ wrAll [] l, x.gone = true → x.row = [] := by
  have : ∀ (l : List Actn) (ws : List Wr), (∀ x ∈ ws, x.gone = true → x.row = []) → ∀ x ∈ wrAll ws l, x.gone = true → x.row = [] := by
    intro l
    induction l with
    | nil => intro ws h; exact h
    | cons a l ih =>
      intro ws h
      refine ih _ fun x hx => ?_
      rcases wwrite_mem hx with rfl | hx
      · intro hg
        unfold actW at hg ⊢
        simp only at hg ⊢
        rw [hg]; rfl
      · exact h x hx
  exact this l [] (fun x hx => by cases hx)
theorem tx_xget {w : World} {FX FS : Nat → Prop} {xb sb : Nat} {base : Int} {ws : List Wr} {s : Sto} {m : Nat} (key : ByteArray) (h : TxAt w FX xb base ws) (hS : StoreAt w FS sb s) (hs : s.Small m) (hm : m ≤ 100000000) (hg : ∀ x ∈ ws, x.gone = true → x.row = []) (hl : ∀ x ∈ ws, x.row.length ≤ 1000000000) :
    Calls Try.prog 18 #[.pointer (some ⟨xb, 0, none⟩), .pointer (some ⟨sb, 0, none⟩), .string key] w fun e w' => RowOk w w' e (xget ws s base key) ∧ Fr No w w' := by
  cases hf : wfind key ws with
  | none =>
    rw [xget_none hf]
    exact tx_get_none key h hf fun w' f => store_get (hS.fr0 f) hs hm base key
  | some y =>
    have hy := (wfind_some hf).1
    refine (tx_get_own key h hf (hl y hy)).mono ?_
    rintro e w' ⟨A, c, rfl, ho, hfr⟩
    rw [xget_own hf]
    cases hyg : y.gone with
    | false => exact ⟨⟨A, c, rfl, ho⟩, hfr⟩
    | true =>
      have hr := hg y hy hyg
      rw [hr] at ho ⊢
      exact ⟨⟨A, c, rfl, ho⟩, hfr⟩

theorem Rd.itO {w : World} {F : Nat → Prop} {A : Option Addr} {xs : List Item} (h : Rd tItemO w F A xs) : Rd tItem w F A xs := by
  obtain ⟨h0, cs, h1, h2⟩ := h
  refine ⟨h0, cs, ?_, h2⟩
  clear h0 h2
  induction xs generalizing cs with
  | nil => exact h1
  | cons x xs ih =>
    obtain ⟨c, d, rfl, h3, h4⟩ := h1
    obtain ⟨A', c', rfl, h5⟩ := tItemO_open h3
    exact ⟨_, _, rfl, tItem_mk h5.rd.2.1 h5.rd.2.2, ih _ h4⟩
theorem law_items_same {w : World} {F G : Nat → Prop} {A B : Option Addr} {c d : Nat} {l : List Item} (h : Rd tItem w F A l) (k : Rd tItem w G B l) (hk : ∀ x ∈ l, x.1.size ≤ 9223372036854775807) :
    Calls Try.prog 28 #[.slice A l.length c, .slice B l.length d] w fun e w' => e = .returned (.bool true) ∧ Fr No w w' := by
  have := law_items (c := c) (d := d) h k hk
  rwa [decide_eq_true rfl] at this
theorem xscan_small {ws : List Wr} {s : Sto} {m : Nat} {a : Int} (hs : s.Small m) (hw : ∀ x ∈ ws, x.key.size ≤ 4000) (lo hi : ByteArray) (most : Int) : ∀ x ∈ xscan ws s a lo hi most, x.1.size ≤ 9223372036854775807 := by
  intro x hx
  have h1 := (mem_xall x).1 (List.mem_of_mem_take hx)
  have h2 := h1.1
  unfold xget at h2
  cases hf : wfind x.1 ws with
  | some y =>
    obtain ⟨hy, e⟩ := wfind_some hf
    have := hw y hy
    rw [e] at this
    omega
  | none =>
    rw [hf] at h2
    unfold Sto.get Sto.of at h2
    cases hl : look x.1 s.kc with
    | none => rw [hl] at h2; simp [Chn.empty, Chn.get] at h2; try cases h2
    | some c => have := hs.ksz _ (look_mem hl); simp only at this; omega

set_option maxHeartbeats 4000000 in
set_option maxRecDepth 100000 in
theorem law_sees_ok {w : World} {F G : Nat → Prop} {D E : Option Addr} {e1 e2 : Nat} {ls : List (List Actn)} {l : List Actn} (base : Int) (lo hi : ByteArray) (most : Int) (h : Rd (Ty.slice tAct) w F D ls) (ha : Rd tAct w G E l) (hlb : lotsB ls = true) (hl : l.length ≤ 40) (hlo : lo.size ≤ 20) (hhi : hi.size ≤ 20) :
    Calls Try.prog 9 #[.slice D ls.length e1, .int .i64 base, .slice E l.length e2, .string lo, .string hi, .int .i64 most] w fun e w' => e = .returned (.bool true) ∧ Fr No w w' := by
  have hloI : (lo.size : Int) ≤ 20 := by omega
  have hhiI : (hi.size : Int) ≤ 20 := by omega
  have hlI : (l.length : Int) ≤ 40 := by omega
  have hlots := fun w' (f : Fr No w w') => law_lots (c := e1) (h.fr0 f)
  rw [hlb] at hlots
  have hst := fun w' (f : Fr No w w') => law_stored (e := e1) (h.fr0 f) hlb
  have hfine : (stAll Sto.empty ls).Fine 2560 := (stAll_fine empty_fine ls).mono (by have := (lotsB_all hlb).1; omega)
  have hwr := fun w' (f : Fr No w w') (base : Int) => law_written (e1 := e2) base (ha.fr0 f) (by omega)
  have hok := wrAll_ok nil_ok l
  have hgn := wrAll_gone l
  obtain ⟨ws, hws⟩ : ∃ ws, wrAll [] l = ws := ⟨_, rfl⟩
  simp only [hws] at hwr hok hgn
  obtain ⟨s, hs⟩ : ∃ s, stAll Sto.empty ls = s := ⟨_, rfl⟩
  simp only [hs] at hst hfine
  obtain ⟨hn0, hn1⟩ := nowi hfine (by omega)
  have H := Lib.hid (And.intro hlots (And.intro hst (And.intro hfine (And.intro hwr (And.intro hok hgn)))))
  clear hlots hst hfine hlb hs h hwr hok hgn hws ha
  go_enter Try.func9, Try.ntmps9
  go_wp2_with fail
  refine (law_both w).mono ?_
  rintro e1 w1 ⟨rfl, hf1⟩
  have HF1 := Lib.hid hf1
  clear hf1
  go_wp2_with fail
  refine (H.out.1 _ HF1.out).mono ?_
  rintro e2 w2 ⟨rfl, hf2⟩
  have HF2 := Lib.hid (HF1.out.trans (hf2.mono fun _ _ f => f.elim))
  clear hf2 HF1
  go_wp2_with fail
  refine (H.out.2.1 _ HF2.out).mono ?_
  rintro e3 w3 ⟨sb, A, c, B, d, rfl, hsd, hf3⟩
  obtain ⟨W, hW⟩ : ∃ W, W = w3.alloc (.cells #[.slice A s.kc.length c, .slice B s.kc.length d, .int .i64 s.now] 55) := ⟨_, rfl⟩
  have hfW : Fr No w3 W := by rw [hW]; exact (Fr.refl No w3).alloc _
  have hbW : W.heap[w3.heap.size]? = some (.cells #[.slice A s.kc.length c, .slice B s.kc.length d, .int .i64 s.now] 55 (0, 0)) := by rw [hW]; exact heap_alloc_new w3 _
  have hM := hsd.made W w3.heap.size hfW (Nat.le_refl _) hbW
  have hFW : Fr No w W := (HF2.out.trans (hf3.mono fun _ _ f => f.elim)).trans (hfW.mono fun _ _ f => f.elim)
  have HM := Lib.hid (And.intro hM (And.intro hFW hbW))
  clear hM hbW hfW hf3 hsd HF2 hFW
  obtain ⟨bm, hbm⟩ : ∃ bm : Int, base.tmod 20 = bm := ⟨_, rfl⟩
  go_wp2_with fail
  rw [← hW]
  clear hW
  refine (H.out.2.2.2.1 _ HM.out.2.1 bm).mono ?_
  clear hbm
  rintro e4 w4 ⟨xb, A4, c4, rfl, hc4, ⟨FX, FM, hT, hMx, hdis⟩, hf4⟩
  obtain ⟨W5, hW5⟩ : ∃ W5, W5 = w4.alloc (.cells #[.int .i64 bm, .slice A4 ws.length c4] 34) := ⟨_, rfl⟩
  have hfW5 : Fr No w4 W5 := by rw [hW5]; exact (Fr.refl No w4).alloc _
  have hbW5 : W5.heap[w4.heap.size]? = some (.cells #[.int .i64 bm, .slice A4 ws.length c4] 34 (0, 0)) := by rw [hW5]; exact heap_alloc_new w4 _
  have hMid5 := (HM.out.1.fr0 hf4).fr0 hfW5
  have hb5 := (hf4.trans (hfW5.mono fun _ _ f => f.elim)).blk HM.out.2.2 (fun f => f)
  have b2 := blk_cell (hf4.blk HM.out.2.2 (fun f => f)) 2
  simp at b2
  have b2a := fun o => cell_alloc b2 o
  have HX := Lib.hid (And.intro (hT.fr0 hfW5) (And.intro (hMx.fr0 hfW5) (And.intro hMid5 (And.intro hb5 (And.intro hbW5 (And.intro hc4 ((HM.out.2.1.trans (hf4.mono fun _ _ f => f.elim)).trans (hfW5.mono fun _ _ f => f.elim))))))))
  clear hT hMx hdis hf4 hfW5 hbW5 hMid5 hb5 hc4
  go_wp2_with fail
  rw [← hW5]
  clear hW5
  obtain ⟨FS, hS⟩ := HX.out.2.2.1.store
  obtain ⟨A9, c9, B9, d9, hblk, FM9, hV⟩ := HX.out.2.2.1.blk
  have hb7 := HX.out.2.2.2.2.1
  have b0 := blk_cell hblk 0
  have b1 := blk_cell hblk 1
  have b2w := blk_cell hblk 2
  have m0 := blk_cell hb7 0
  have m1 := blk_cell hb7 1
  simp at b0 b1 b2w m0 m1
  have hlen20 := H.out.2.2.2.2.1.len
  have hsm := H.out.2.2.2.2.1.small
  have hgn := H.out.2.2.2.2.2
  have hfine := H.out.2.2.1
  have hx1 := fun key w' (f : Fr No W5 w') => tx_xget key (HX.out.1.fr0 f) (hS.fr0 f) hfine.small (by omega) hgn (fun x hx => by have := hsm x hx; omega)
  have hx2 := fun key w' (f : Fr No W5 w') => ref_xget (F := FM) (FM := FM9) (base := bm) (ws := ws) (v := .agg #[.int .i64 bm, .slice A4 ws.length c4]) key ⟨A4, c4, rfl, HX.out.2.2.2.2.2.1, HX.out.2.1.fr0 f⟩ (hV.fr0 f) hfine (by omega) H.out.2.2.2.2.1.rising (by omega) hgn
  have hx3 := fun lo hi most w' (f : Fr No W5 w') => tx_scan_ok (HX.out.1.fr0 f) (hS.fr0 f) hfine.small (by omega) (by omega) (fun x hx => by have := hsm x hx; omega) lo hi most
  have hx4 := fun lo hi most w' (f : Fr No W5 w') => ref_xscan (F := FM) (FM := FM9) (base := bm) (ws := ws) (v := .agg #[.int .i64 bm, .slice A4 ws.length c4]) lo hi most ⟨A4, c4, rfl, HX.out.2.2.2.2.2.1, HX.out.2.1.fr0 f⟩ (hV.fr0 f) hfine (by omega) H.out.2.2.2.2.1.rising (by omega) hgn
  have hx5 := fun lo hi most w' A c B d (F G : Nat → Prop) (h : Rd tItem w' F A (xscan ws s bm lo hi most)) (k : Rd tItem w' G B (xscan ws s bm lo hi most)) => (law_items_same (c := c) (d := d) h k (xscan_small hfine.small (fun x hx => by have := (hsm x hx).1; omega) lo hi most))
  have HE := Lib.hid (And.intro hx1 (And.intro hx2 (And.intro hx3 (And.intro hx4 (And.intro hx5 HX.out.2.2.2.2.2.2)))))
  clear hx1 hx2 hx3 hx4 hx5 hS hV hblk hb7 HX HM hn0 hn1 b2 b2a hlen20 hsm hgn hfine
  go_loopw [18] (fun v wr => ∃ k : Nat, k ≤ 31 ∧ v = .int .i64 k ∧ Hid (Fr No W5 wr)) (fun v _ => 31 - (intOf v).toNat)
  case atStart => exact ⟨0, Nat.zero_le _, rfl, Fr.refl _ _⟩
  case round =>
    obtain ⟨k, hk, rfl, I⟩ := hrel
    have hk0 : (0 : Int) ≤ (k : Int) := Int.natCast_nonneg _
    have b0 := I.out.cell b0 (fun f => f)
    have b1 := I.out.cell b1 (fun f => f)
    have b2w := I.out.cell b2w (fun f => f)
    have m0 := I.out.cell m0 (fun f => f)
    have m1 := I.out.cell m1 (fun f => f)
    by_cases hlt : k < 31
    · have hk1 : (k : Int) < 31 := by omega
      obtain ⟨q, hq⟩ : ∃ q : UInt8, (q.toNat : Int) = (k : Int) := ⟨UInt8.ofNat k, by rw [UInt8.toNat_ofNat']; omega⟩
      have kc : ∀ w0 : World, (convert 27 9 (.slice (some ⟨w0.heap.size, 0, none⟩) 2 2)).run Try.prog (w0.alloc (.cells #[.int .u8 107, .int .u8 (k : Int)] 5)) = .ok (.string (kq q)) (w0.alloc (.cells #[.int .u8 107, .int .u8 (k : Int)] 5)) := fun w0 => by
        rw [← hq]
        exact run_kq_at _ _ q (heap_alloc_new _ _)
      have hfa : Fr No W5 (wr.alloc (.cells #[.int .u8 107, .int .u8 (k : Int)] 5)) := I.out.alloc _
      have hg1 := HE.out.1 (kq q) _ hfa
      have hg2 := HE.out.2.1 (kq q)
      obtain ⟨o, ho⟩ : ∃ o, xget ws s bm (kq q) = o := ⟨_, rfl⟩
      simp only [ho] at hg1 hg2
      have HG := Lib.hid (And.intro hg1 (And.intro hg2 hfa))
      clear hg1 hg2 hfa ho hq
      cases o
      all_goals
        go_wp2_with fail
        refine HG.out.1.mono ?_
        rintro e8 w8 ⟨⟨A8, c8, rfl, ho8⟩, hf8⟩
        have g8 : Fr No W5 w8 := HG.out.2.2.trans (hf8.mono fun _ _ f => f.elim)
        have r8 : Fr No wr w8 := ((Fr.refl No wr).alloc _).trans (hf8.mono fun _ _ f => f.elim)
        have b0 := r8.cell b0 (fun f => f)
        have b1 := r8.cell b1 (fun f => f)
        have b2w := r8.cell b2w (fun f => f)
        have m0 := r8.cell m0 (fun f => f)
        have m1 := r8.cell m1 (fun f => f)
        have H8 := Lib.hid (And.intro ho8 (And.intro (HG.out.2.1 w8 g8) g8))
        clear ho8 hf8 g8 r8
        go_wp2_with fail
        refine H8.out.2.1.mono ?_
        rintro ea wa ⟨⟨Aa, ca, rfl, hca, hra⟩, hfa⟩
        have hby := ref_bytes (c := c8) (d := ca) (H8.out.1.rd.2.2.fr0 hfa) hra
        rw [decide_eq_true rfl] at hby
        have HB := Lib.hid (And.intro hby (H8.out.2.2.trans (hfa.mono fun _ _ f => f.elim)))
        clear hby hca hra hfa
        go_wp2_with fail
        refine HB.out.1.mono ?_
        rintro eb wb ⟨rfl, hfb⟩
        have HC := Lib.hid (HB.out.2.trans (hfb.mono fun _ _ f => f.elim))
        clear hfb
        go_wp2_with fail
        go_roundw
        case rel => exact ⟨k + 1, by omega, by go_num, HC.out⟩
        case measure => simp [intOf]; omega
    · have hge : (31 : Int) ≤ (k : Int) := by omega
      have hI := I.out
      go_wp2_with fail
      go_region_held3 (fun w' => w'.cell? ⟨w3.heap.size, 0, none⟩ = some (.slice A9 s.kc.length c9) ∧ w'.cell? ⟨w3.heap.size, 1, none⟩ = some (.slice B9 s.kc.length d9) ∧ w'.cell? ⟨w3.heap.size, 2, none⟩ = some (.int .i64 s.now) ∧ w'.cell? ⟨w4.heap.size, 0, none⟩ = some (.int .i64 bm) ∧ w'.cell? ⟨w4.heap.size, 1, none⟩ = some (.slice A4 ws.length c4))
        (first
          | exact ⟨b0, b1, b2w, m0, m1⟩
          | exact ⟨q0, q1, q2, q3, q4⟩)
        (first
          | (go_at_call 26; refine (HE.out.2.2.1 _ _ _ _ (by repeat (first | assumption | exact Fr.refl _ _ | apply Fr.drew | apply Fr.drewN))).mono ?_; rintro e8 w8 ⟨A8, c8, rfl, ho8, hf8⟩
             have g8 : Fr No W5 w8 := Fr.trans (by repeat (first | assumption | exact Fr.refl _ _ | apply Fr.drew | apply Fr.drewN)) (hf8.mono fun _ _ f => f.elim)
             have r8 : Fr No wr w8 := Fr.trans (by repeat (first | assumption | exact Fr.refl _ _ | apply Fr.drew | apply Fr.drewN)) (hf8.mono fun _ _ f => f.elim)
             have q0 := r8.cell b0 (fun f => f)
             have q1 := r8.cell b1 (fun f => f)
             have q2 := r8.cell b2w (fun f => f)
             have q3 := r8.cell m0 (fun f => f)
             have q4 := r8.cell m1 (fun f => f)
             have HA := Lib.hid ho8.rd.2.2.itO
             clear ho8 hf8)
          | (go_at_call 29; refine (HE.out.2.2.2.1 _ _ _ _ (by repeat (first | assumption | exact Fr.refl _ _ | apply Fr.drew | apply Fr.drewN))).mono ?_; rintro ea wa ⟨Aa, ca, rfl, hca, hra, hfa⟩
             have ga : Fr No W5 wa := Fr.trans (by repeat (first | assumption | exact Fr.refl _ _ | apply Fr.drew | apply Fr.drewN)) (hfa.mono fun _ _ f => f.elim)
             have ra : Fr No wr wa := Fr.trans (by repeat (first | assumption | exact Fr.refl _ _ | apply Fr.drew | apply Fr.drewN)) (hfa.mono fun _ _ f => f.elim)
             have q0 := ra.cell b0 (fun f => f)
             have q1 := ra.cell b1 (fun f => f)
             have q2 := ra.cell b2w (fun f => f)
             have q3 := ra.cell m0 (fun f => f)
             have q4 := ra.cell m1 (fun f => f)
             have HA := Lib.hid (HA.out.fr0 hfa)
             have HR := Lib.hid hra
             clear hca hra hfa)
          | (go_at_call 28; refine (HE.out.2.2.2.2.1 _ _ _ _ _ _ _ _ _ _ HA.out HR.out).mono ?_; rintro eb wb ⟨rfl, hfb⟩
             have gb : Fr No W5 wb := Fr.trans (by repeat (first | assumption | exact Fr.refl _ _ | apply Fr.drew | apply Fr.drewN)) (hfb.mono fun _ _ f => f.elim)
             have rb : Fr No wr wb := Fr.trans (by repeat (first | assumption | exact Fr.refl _ _ | apply Fr.drew | apply Fr.drewN)) (hfb.mono fun _ _ f => f.elim)
             have q0 := rb.cell b0 (fun f => f)
             have q1 := rb.cell b1 (fun f => f)
             have q2 := rb.cell b2w (fun f => f)
             have q3 := rb.cell m0 (fun f => f)
             have q4 := rb.cell m1 (fun f => f)
             clear hfb))
      all_goals
        go_wp2_with fail
        go_ret
        exact ⟨rfl, HE.out.2.2.2.2.2.trans (Fr.mono (F := No) (by repeat (first | assumption | exact Fr.refl _ _ | apply Fr.drew | apply Fr.drewN)) fun _ _ f => f.elim)⟩
set_option maxHeartbeats 4000000 in
set_option maxRecDepth 100000 in
theorem law_sees {w : World} {F G : Nat → Prop} {D E : Option Addr} {e1 e2 : Nat} {ls : List (List Actn)} {l : List Actn} (base : Int) (lo hi : ByteArray) (most : Int) (h : Rd (Ty.slice tAct) w F D ls) (ha : Rd tAct w G E l) :
    Calls Try.prog 9 #[.slice D ls.length e1, .int .i64 base, .slice E l.length e2, .string lo, .string hi, .int .i64 most] w fun e w' => e = .returned (.bool true) ∧ Fr No w w' := by
  have hlots := fun w' (f : Fr No w w') => law_lots (c := e1) (h.fr0 f)
  have hone := Lib.hid law_both
  have hli : (l.length : Int) ≤ 9223372036854775807 := by have := ha.1; omega
  cases hlb : lotsB ls with
  | false =>
    rw [hlb] at hlots
    have H := Lib.hid hlots
    clear hlots hlb h ha
    go_enter Try.func9, Try.ntmps9
    go_wp2_with fail
    refine (hone.out w).mono ?_
    rintro e1 w1 ⟨rfl, hf1⟩
    have HF1 := Lib.hid (hf1)
    clear hf1
    go_wp2_with fail
    refine (H.out _ HF1.out).mono ?_
    rintro e2 w2 ⟨rfl, hf2⟩
    have HF2 := Lib.hid (HF1.out.trans (hf2.mono fun _ _ f => f.elim))
    clear hf2
    go_wp2_with fail
    refine (hone.out w2).mono ?_
    rintro e3 w3 ⟨rfl, hf3⟩
    have HF3 := Lib.hid (HF2.out.trans (hf3.mono fun _ _ f => f.elim))
    clear hf3
    go_wp2_with fail
    go_ret
    exact ⟨rfl, HF3.out⟩
  | true =>
    by_cases hal : l.length ≤ 40
    · by_cases hlo : lo.size ≤ 20
      · by_cases hhi : hi.size ≤ 20
        · exact law_sees_ok base lo hi most h ha hlb hal hlo hhi
        · have hal1 : (l.length : Int) ≤ 40 := by omega
          have hlo1 : (lo.size : Int) ≤ 20 := by omega
          have hhi1 : 20 < (hi.size : Int) := by omega
          rw [hlb] at hlots
          clear hal hlo hhi
          have H := Lib.hid hlots
          clear hlots hlb h ha
          go_enter Try.func9, Try.ntmps9
          go_wp2_with fail
          refine (hone.out w).mono ?_
          rintro e1 w1 ⟨rfl, hf1⟩
          have HF1 := Lib.hid (hf1)
          clear hf1
          go_wp2_with fail
          refine (H.out _ HF1.out).mono ?_
          rintro e2 w2 ⟨rfl, hf2⟩
          have HF2 := Lib.hid (HF1.out.trans (hf2.mono fun _ _ f => f.elim))
          clear hf2
          go_wp2_with fail
          refine (hone.out w2).mono ?_
          rintro e3 w3 ⟨rfl, hf3⟩
          have HF3 := Lib.hid (HF2.out.trans (hf3.mono fun _ _ f => f.elim))
          clear hf3
          go_wp2_with fail
          go_ret
          exact ⟨rfl, HF3.out⟩
      · have hal1 : (l.length : Int) ≤ 40 := by omega
        have hlo1 : 20 < (lo.size : Int) := by omega
        rw [hlb] at hlots
        clear hal hlo
        have H := Lib.hid hlots
        clear hlots hlb h ha
        go_enter Try.func9, Try.ntmps9
        go_wp2_with fail
        refine (hone.out w).mono ?_
        rintro e1 w1 ⟨rfl, hf1⟩
        have HF1 := Lib.hid (hf1)
        clear hf1
        go_wp2_with fail
        refine (H.out _ HF1.out).mono ?_
        rintro e2 w2 ⟨rfl, hf2⟩
        have HF2 := Lib.hid (HF1.out.trans (hf2.mono fun _ _ f => f.elim))
        clear hf2
        go_wp2_with fail
        refine (hone.out w2).mono ?_
        rintro e3 w3 ⟨rfl, hf3⟩
        have HF3 := Lib.hid (HF2.out.trans (hf3.mono fun _ _ f => f.elim))
        clear hf3
        go_wp2_with fail
        go_ret
        exact ⟨rfl, HF3.out⟩
    · have hal2 : 40 < (l.length : Int) := by omega
      rw [hlb] at hlots
      clear hal
      have H := Lib.hid hlots
      clear hlots hlb h ha
      go_enter Try.func9, Try.ntmps9
      go_wp2_with fail
      refine (hone.out w).mono ?_
      rintro e1 w1 ⟨rfl, hf1⟩
      have HF1 := Lib.hid (hf1)
      clear hf1
      go_wp2_with fail
      refine (H.out _ HF1.out).mono ?_
      rintro e2 w2 ⟨rfl, hf2⟩
      have HF2 := Lib.hid (HF1.out.trans (hf2.mono fun _ _ f => f.elim))
      clear hf2
      go_wp2_with fail
      refine (hone.out w2).mono ?_
      rintro e3 w3 ⟨rfl, hf3⟩
      have HF3 := Lib.hid (HF2.out.trans (hf3.mono fun _ _ f => f.elim))
      clear hf3
      go_wp2_with fail
      go_ret
      exact ⟨rfl, HF3.out⟩
end Go.Proofs.Ytkcppngopdiljaa
