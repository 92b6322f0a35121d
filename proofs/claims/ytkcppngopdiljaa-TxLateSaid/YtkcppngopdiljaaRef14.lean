/- Reference 14 (tx): Write. -/
import Derived.Test.YtkcppngopdiljaaSpec14
import Derived.Test.YtkcppngopdiljaaRef06
import Derived.Test.YtkcppngopdiljaaRef13d
import Derived.Test.YtkcppngopdiljaaRef06b
import Derived.Deep.RegionLaw
import Derived.Deep.DeepCutAuto
import Derived.BigRegion
import Derived.BigQuiet
set_option linter.unusedVariables false
set_option linter.unusedSimpArgs false
namespace Go.Proofs.Ytkcppngopdiljaa
open Go.RowKit

/-- The document's transaction as a value. -/
def TxVal (w : World) (F : Nat → Prop) (v : Value) (base : Int) (ws : List Wr) : Prop := ∃ A c, v = .agg #[.int .i64 base, .slice A ws.length c] ∧ ws.length ≤ c ∧ Rd tWr w F A ws

/-- What stands in the loop: the new transaction's box. -/
structure WInv (w W wr : World) (F R : Nat → Prop) (base : Int) (out : List Wr) (v : Value) : Prop where
  blk : wr.heap[w.heap.size + 3]? = some (.cells #[.int .i64 base, v] 34 (0, 0))
  own : Ow tWr 43 wr (fun i => ((F i ∨ R i) ∧ i < w.heap.size) ∨ w.heap.size + 3 < i) v out
  box : ∀ j, v.ownBlock = some j → w.heap.size + 3 < j
  fr : Fr (fun i => i = w.heap.size + 3) W wr
theorem winv_next {w W wr w1 w3 : World} {F R : Nat → Prop} {base : Int} {out : List Wr} {v : Value} {y : Wr} {A3 : Option Addr} {n c3 : Nat} {o : Obj} (hW : W.heap.size = w.heap.size + 4) (I : WInv w W wr F R base out v) (hf : Fr No wr w1)
    (ho : Ow tWr 43 w3 (fun i => (((F i ∨ R i) ∧ i < w.heap.size) ∨ w.heap.size + 3 < i) ∨ (w1.alloc o).heap.size ≤ i) (.slice A3 n c3) (out ++ [y])) (hg : (w1.alloc o).grownBy w3 v.ownBlock)
    (hat : (Value.slice A3 n c3).ownBlock = v.ownBlock ∨ (Value.slice A3 n c3).ownBlock = some (w1.alloc o).heap.size) :
    w3.heap[w.heap.size + 3]? = some (.cells #[.int .i64 base, v] 34 (0, 0)) ∧ WInv w W (w3.setCell ⟨w.heap.size + 3, 1, none⟩ (.slice A3 n c3)) F R base (out ++ [y]) (.slice A3 n c3) := by
  have hws := I.fr.size
  have h1s := hf.size
  have hb2 : (w1.alloc o).heap[w.heap.size + 3]? = some (.cells #[.int .i64 base, v] 34 (0, 0)) := (hf.alloc o).blk I.blk (fun f => f)
  have hb3 := (hg.block (w.heap.size + 3) (blk_lt hb2) (fun e => by have := I.box _ e.symm; omega)).trans hb2
  have hb4 := blk_set hb3 1 (.slice A3 n c3)
  have hn : ¬ ((((F (w.heap.size + 3) ∨ R (w.heap.size + 3)) ∧ w.heap.size + 3 < w.heap.size) ∨ w.heap.size + 3 < w.heap.size + 3) ∨ (w1.alloc o).heap.size ≤ w.heap.size + 3) := by simp; omega
  refine ⟨hb3, by simpa using hb4, (ho.set ⟨w.heap.size + 3, 1, none⟩ hn _).mono fun i hi _ => ?_, fun j hj => ?_, ?_⟩
  · rcases hi with hi | hi
    · exact hi
    · simp at hi; exact .inr (by omega)
  · rcases hat with hat | hat
    · exact I.box j (by rw [← hat]; exact hj)
    · rw [hj] at hat; injection hat with hat; simp at hat; omega
  · have h1 : Fr (fun i => i = w.heap.size + 3) W (w1.alloc o) := (I.fr.trans (hf.mono fun _ _ f => f.elim)).alloc o
    have h3 : Fr (fun i => i = w.heap.size + 3) W w3 := h1.grown hg fun j hj => .inr (by have := I.box j hj; omega)
    exact h3.set _ (.inl rfl) _
theorem WInv.fr0 {w W wr w' : World} {F R : Nat → Prop} {base : Int} {out : List Wr} {v : Value} (h : WInv w W wr F R base out v) (f : Fr No wr w') : WInv w W w' F R base out v :=
  ⟨f.blk h.blk (fun f => f), h.own.fr0 f, h.box, h.fr.trans (f.mono fun _ _ f => f.elim)⟩

theorem wwrite_eq {ws : List Wr} {x : Wr} (hr : Rising (ws.map Wr.key)) (hn : ws.length ≤ 20) : wwrite ws x = if 20 < (wput x ws).length then (ws, 1) else (wput x ws, 0) := by
  unfold wwrite
  rw [wput_length hr]
  by_cases h1 : (wfind x.key ws).isNone = true
  · by_cases h2 : 20 ≤ ws.length
    · rw [if_pos ⟨h1, h2⟩, if_pos h1, if_pos (by omega)]
    · rw [if_neg (fun h => h2 h.2), if_pos h1, if_neg (by omega)]
  · rw [if_neg (fun h => h1 h.1), if_neg h1, if_neg (by omega)]
theorem wend {w wr2 : World} {F R S : Nat → Prop} {base : Int} {l : List Wr} {A' : Option Addr} {c' : Nat} (hb : wr2.heap[w.heap.size + 2]? = some (.cells #[.int .i64 0, .slice none 0 0] 34 (0, 0))) (hf : Fr No w wr2) (hr : Rd tWr wr2 S A' l) (hS : ∀ i, S i → i ≠ w.heap.size + 2 ∧ (F i ∨ R i ∨ w.heap.size ≤ i)) (hc : l.length ≤ c') :
    let w' := (wr2.setCell ⟨w.heap.size + 2, 0, none⟩ (.int .i64 base)).setCell ⟨w.heap.size + 2, 1, none⟩ (.slice A' l.length c')
    w'.cell? ⟨w.heap.size + 2, 0, none⟩ = some (.int .i64 base) ∧ w'.cell? ⟨w.heap.size + 2, 1, none⟩ = some (.slice A' l.length c') ∧ TxVal w' (fun i => F i ∨ R i ∨ w.heap.size ≤ i) (.agg #[.int .i64 base, .slice A' l.length c']) base l ∧ Fr No w w' := by
  have hb4 := blk_set (blk_set hb 0 (.int .i64 base)) 1 (.slice A' l.length c')
  have d0 := blk_cell hb4 0
  have d1 := blk_cell hb4 1
  simp at d0 d1
  refine ⟨d0, d1, ⟨A', c', rfl, hc, ((hr.set2 ⟨w.heap.size + 2, 0, none⟩ (fun h => (hS _ h).1 rfl) _).set2 ⟨w.heap.size + 2, 1, none⟩ (fun h => (hS _ h).1 rfl) _).mono fun i hi _ => (hS i hi).2⟩, (hf.set _ (.inr (by simp)) _).set _ (.inr (by simp)) _⟩

set_option maxHeartbeats 4000000 in
set_option maxRecDepth 100000 in
theorem ref_write {w : World} {F R : Nat → Prop} {v : Value} {base : Int} {ws : List Wr} {Ar : Option Addr} {cr : Nat} {x : Wr} (h : TxVal w F v base ws) (hn : ws.length ≤ 20) (hr : Rising (ws.map Wr.key)) (hx : Rd Ty.u8 w R Ar x.row) (hc : x.row.length ≤ cr) :
    Calls Try.prog 34 #[v, .agg #[.string x.key, .slice Ar x.row.length cr, .bool x.gone]] w fun e w' => ∃ u, e = .returned (.tuple #[u, .int .i64 (wwrite ws x).2]) ∧ TxVal w' (fun i => F i ∨ R i ∨ w.heap.size ≤ i) u base (wwrite ws x).1 ∧ Fr No w w' := by
  obtain ⟨A, c, rfl, h1, h2⟩ := h
  have hnI : (ws.length : Int) ≤ 20 := by omega
  obtain ⟨W, hW⟩ : ∃ W, W = (((w.alloc (.cells #[.int .i64 base, .slice A ws.length c] 34)).alloc (.cells #[.string x.key, .slice Ar x.row.length cr, .bool x.gone] 43)).alloc (.cells #[.int .i64 0, .slice none 0 0] 34)).alloc (.cells #[.int .i64 base, .slice none 0 0] 34) := ⟨_, rfl⟩
  have hf : Fr No w W := by rw [hW]; exact ((((Fr.refl No w).alloc _).alloc _).alloc _).alloc _
  have hsW : W.heap.size = w.heap.size + 4 := by rw [hW]; simp
  have hb0 : W.heap[w.heap.size]? = some (.cells #[.int .i64 base, .slice A ws.length c] 34 (0, 0)) := by rw [hW]; exact ((Fr.refl No _).alloc _).blk (blk_three1 ..) (fun f => f)
  have hb1 : W.heap[w.heap.size + 1]? = some (.cells #[.string x.key, .slice Ar x.row.length cr, .bool x.gone] 43 (0, 0)) := by rw [hW]; exact ((Fr.refl No _).alloc _).blk (blk_three2 ..) (fun f => f)
  have hb2 : W.heap[w.heap.size + 2]? = some (.cells #[.int .i64 0, .slice none 0 0] 34 (0, 0)) := by rw [hW]; exact ((Fr.refl No _).alloc _).blk (blk_three3 ..) (fun f => f)
  have hb3 : W.heap[w.heap.size + 3]? = some (.cells #[.int .i64 base, .slice none 0 0] 34 (0, 0)) := by
    rw [hW]
    have := heap_alloc_new (((w.alloc (.cells #[.int .i64 base, .slice A ws.length c] 34)).alloc (.cells #[.string x.key, .slice Ar x.row.length cr, .bool x.gone] 43)).alloc (.cells #[.int .i64 0, .slice none 0 0] 34)) (.cells #[.int .i64 base, .slice none 0 0] 34)
    rwa [World.size_alloc, World.size_alloc, World.size_alloc] at this
  have hw3 : W.heap.size = w.heap.size + 4 := hsW
  have H := Lib.hid (And.intro (h2.mono fun i hi hl => (⟨hi, hl⟩ : F i ∧ i < w.heap.size)) (And.intro (hx.mono fun i hi hl => (⟨hi, hl⟩ : R i ∧ i < w.heap.size)) (And.intro hf (And.intro hb0 (And.intro hb1 (And.intro hb2 (And.intro hb3 (And.intro hr (And.intro h1 hc)))))))))
  clear h1 h2 hx hf hb0 hb1 hb2 hb3 hr hc
  go_enter Try.func34, Try.ntmps34
  go_wp2_with fail
  rw [← hW]
  clear hW
  go_loopw [7, 8] (fun dv iv wr => ∃ (k : Nat) (v : Value), k ≤ ws.length ∧ iv = .int .i64 k ∧ dv = .bool (wdone x (ws.take k)) ∧ Hid (WInv w W wr F R base (wout x (ws.take k)) v)) (fun _ iv _ => ws.length - (intOf iv).toNat)
  case atStart => exact ⟨0, .slice none 0 0, Nat.zero_le _, rfl, rfl, ⟨H.out.2.2.2.2.2.2.1, Ow.nil, fun j hj => by simp [Value.ownBlock] at hj, Fr.refl _ _⟩⟩
  case round =>
    obtain ⟨k, v, hk, rfl, rfl, I⟩ := hrel
    obtain ⟨A2, c2, hv, _, _⟩ := I.out.own.slice
    have HV := Lib.hid hv
    clear hv
    have hq0 : (0 : Int) ≤ (k : Int) := Int.natCast_nonneg _
    have hfr : Fr (fun i => i = w.heap.size + 3) w wr := (H.out.2.2.1.mono fun _ _ f => f.elim).trans (I.out.fr.mono fun i _ hi => .inl hi)
    have hB0 := I.out.fr.blk H.out.2.2.2.1 (by omega)
    have hB1 := I.out.fr.blk H.out.2.2.2.2.1 (by omega)
    have a0 := blk_cell hB0 0
    have a1 := blk_cell hB0 1
    have b0 := blk_cell hB1 0
    have b1 := blk_cell hB1 1
    have b2 := blk_cell hB1 2
    have o0 := blk_cell I.out.blk 0
    have o1 := blk_cell I.out.blk 1
    have oz := blk_frozen I.out.blk 1
    simp at a0 a1 b0 b1 b2 o0 o1
    by_cases hlt : k < ws.length
    · have hq1 : (k : Int) < (ws.length : Int) := by omega
      obtain ⟨ad, A', c', rfl, x0w, x1w, x2w, hc', hrd⟩ := wr_at H.out.1 hlt
      have hadn : ¬ (ad.add (k * 3)).block = w.heap.size + 3 := fun e => by have := World.block_lt_of_cell? w _ x0w; omega
      have htk : ws.take (k + 1) = ws.take k ++ [ws[k]] := List.take_succ_eq_append_getElem hlt
      have hstep := wout_step (x := x) (l := ws.take k) (y := ws[k]) (by rw [← htk, List.map_take]; exact H.out.2.2.2.2.2.2.2.1.sublist (List.take_sublist _ _))
      have hdone := wdone_snoc x (ws.take k) ws[k]
      have hnd : wdone x (ws.take k) = true → ws[k].key ≠ x.key := fun hd e => (wput_snoc hd (by rw [← htk, List.map_take]; exact H.out.2.2.2.2.2.2.2.1.sublist (List.take_sublist _ _))).2 e.symm
      rw [← htk] at hstep hdone
      have hol : (wout x (ws.take k)).length ≤ 21 := by
        unfold wout
        split
        · rw [wput_length (by rw [List.map_take]; exact H.out.2.2.2.2.2.2.2.1.sublist (List.take_sublist _ _))]
          have := List.length_take_le k ws
          split <;> omega
        · have := List.length_take_le k ws; omega
      obtain ⟨y, hy⟩ : ∃ y, ws[k] = y := ⟨_, rfl⟩
      rw [hy] at x0w x1w x2w hc' hrd hstep hdone hnd
      have x0 := hfr.cell x0w hadn
      have HX0 := Lib.hid (And.intro x0w hadn)
      have HX1 := Lib.hid (And.intro x1w x2w)
      clear x0w x1w x2w hadn
      obtain ⟨out, hout⟩ : ∃ out, wout x (ws.take k) = out := ⟨_, rfl⟩
      rw [hout] at I hstep hol
      obtain ⟨d, hd⟩ : ∃ d, wdone x (ws.take k) = d := ⟨_, rfl⟩
      rw [hd] at hstep hdone hnd ⊢
      have HS := Lib.hid (And.intro hstep (And.intro hdone (And.intro hc' (And.intro hrd hol))))
      have HND := Lib.hid hnd
      clear hnd hstep hdone hc' hrd hol htk hy hout hd hB0 hB1
      have hXR : Hid (Rd Ty.u8 wr (fun i => R i ∧ i < w.heap.size) Ar x.row ∧ x.row.length ≤ cr) := ⟨H.out.2.1.fr hfr fun i hi e => by have := hi.2; omega, H.out.2.2.2.2.2.2.2.2.2⟩
      have HX := hXR
      clear hXR hfr
      cases d with
      | true =>
        have hne : y.key ≠ x.key := HND.out rfl
        have hb : (y.key.toList == x.key.toList) = false := by rw [beq_toList]; simpa using hne
        have HN := Lib.hid hne
        clear hne
        go_wp2_with fail
        go_quiet (fail)
        go_wp2_with fail
        go_cut [46] (fun s46 wx => s46 = .bool true ∧ Hid (∃ v', WInv w W wx F R base (out) v'))
        case first =>
          go_quiet (fail)
          go_wp2_with fail
          go_meet
          exact ⟨rfl, _, I.out.fr0 (((Fr.refl No wr).drewN _).drewN _)⟩
        case rest =>
          obtain ⟨rfl, HC⟩ := hcut
          obtain ⟨v1, I1⟩ := HC.out
          have hol1 : (out).length ≤ 22 := by have := HS.out.2.2.2.2; simp; try omega
          have hfr1 : Fr (fun i => i = w.heap.size + 3) w wc := (H.out.2.2.1.mono fun _ _ f => f.elim).trans (I1.fr.mono fun i _ hi => .inl hi)
          have hB0 := I1.fr.blk H.out.2.2.2.1 (by omega)
          have x0 := hfr1.cell HX0.out.1 HX0.out.2
          have x1 := hfr1.cell HX1.out.1 HX0.out.2
          have x2 := hfr1.cell HX1.out.2 HX0.out.2
          have a1 := blk_cell hB0 1
          have o1 := blk_cell I1.blk 1
          have oz := blk_frozen I1.blk 1
          simp at a1 o1
          have hrd1 := HS.out.2.2.2.1.fr hfr1 fun i hi e => by have := hi.2; omega
          have a1a := fun o => cell_alloc (w := wc) a1 o
          have o1a := fun o => cell_alloc (w := wc) o1 o
          have HJ := Lib.hid (And.intro I1 (And.intro hol1 hrd1))
          clear I1 hol1 hfr1 hB0 hrd1 HC
          go_wp2_with fail
          go_region_law
            (first
              | (refine ow_append_step tWr (ys := [y]) ((HJ.out.1.own.fr0 ((Fr.refl No wc).alloc _)).fr0 ((Fr.refl No _).drew)) _ _ (.agg #[.string ⟨#[]⟩, .slice none 0 0, .bool false]) 48 rfl rfl Try.underlying29 info_awr rfl (by decide) (by decide) rfl rfl rfl
                   (Row.single (tWr_mk (a := y.key) (r := y.row) (g := y.gone) (A := A') (c := c') HS.out.2.2.1 (((HJ.out.2.2.fr0 ((Fr.refl No wc).alloc _)).fr0 ((Fr.refl No _).drew)).mono fun i hi hl => ⟨.inl ⟨.inl hi.1, hi.2⟩, fun he => by have := HJ.out.1.box i he; have := hi.2; omega⟩))) (At.block (heap_alloc_new wc _)) (by have := HJ.out.2.1; simp only [List.length_singleton]; omega) ?_
                 intro A8 c8 w8 hown8 hg8 hat8
                 have hnx := winv_next hw3 HJ.out.1 ((Fr.refl No wc).drew) hown8 hg8 hat8
                 have k8 := blk_cell hnx.1 1
                 have z8 := blk_frozen hnx.1 1
                 simp at k8
                 have H8 := Lib.hid hnx.2
                 clear hnx hown8 hg8 hat8))
          all_goals
            go_wp2_with fail
            go_roundw
            case rel =>
              refine ⟨k + 1, .slice A8 (out.length + [y].length) c8, by omega, by go_num, ?_, ?_⟩
              · rw [HS.out.2.1]; simp [HN.out]
              · show WInv w W _ F R base (wout x (ws.take (k + 1))) _
                rw [HS.out.1]
                simpa [HN.out] using H8.out
            case measure => simp [intOf]; omega
      | false =>
        cases hkl : Op.bytesLess y.key.toList x.key.toList with
        | true =>
          have hkl2 : kl y.key x.key = true := hkl
          have hne : y.key ≠ x.key := kl_ne hkl2
          have hb : (y.key.toList == x.key.toList) = false := by rw [beq_toList]; simpa using hne
          have HN := Lib.hid (And.intro hne hkl2)
          clear hne hkl2
          go_wp2_with fail
          go_quiet (fail)
          go_wp2_with fail
          go_cut [46] (fun s46 wx => s46 = .bool true ∧ Hid (∃ v', WInv w W wx F R base (out) v'))
          case first =>
            go_quiet (fail)
            go_wp2_with fail
            go_meet
            exact ⟨rfl, _, I.out.fr0 (((Fr.refl No wr).drewN _).drewN _)⟩
          case rest =>
            obtain ⟨rfl, HC⟩ := hcut
            obtain ⟨v1, I1⟩ := HC.out
            have hol1 : (out).length ≤ 22 := by have := HS.out.2.2.2.2; simp; try omega
            have hfr1 : Fr (fun i => i = w.heap.size + 3) w wc := (H.out.2.2.1.mono fun _ _ f => f.elim).trans (I1.fr.mono fun i _ hi => .inl hi)
            have hB0 := I1.fr.blk H.out.2.2.2.1 (by omega)
            have x0 := hfr1.cell HX0.out.1 HX0.out.2
            have x1 := hfr1.cell HX1.out.1 HX0.out.2
            have x2 := hfr1.cell HX1.out.2 HX0.out.2
            have a1 := blk_cell hB0 1
            have o1 := blk_cell I1.blk 1
            have oz := blk_frozen I1.blk 1
            simp at a1 o1
            have hrd1 := HS.out.2.2.2.1.fr hfr1 fun i hi e => by have := hi.2; omega
            have a1a := fun o => cell_alloc (w := wc) a1 o
            have o1a := fun o => cell_alloc (w := wc) o1 o
            have HJ := Lib.hid (And.intro I1 (And.intro hol1 hrd1))
            clear I1 hol1 hfr1 hB0 hrd1 HC
            go_wp2_with fail
            go_region_law
              (first
                | (refine ow_append_step tWr (ys := [y]) ((HJ.out.1.own.fr0 ((Fr.refl No wc).alloc _)).fr0 ((Fr.refl No _).drew)) _ _ (.agg #[.string ⟨#[]⟩, .slice none 0 0, .bool false]) 48 rfl rfl Try.underlying29 info_awr rfl (by decide) (by decide) rfl rfl rfl
                     (Row.single (tWr_mk (a := y.key) (r := y.row) (g := y.gone) (A := A') (c := c') HS.out.2.2.1 (((HJ.out.2.2.fr0 ((Fr.refl No wc).alloc _)).fr0 ((Fr.refl No _).drew)).mono fun i hi hl => ⟨.inl ⟨.inl hi.1, hi.2⟩, fun he => by have := HJ.out.1.box i he; have := hi.2; omega⟩))) (At.block (heap_alloc_new wc _)) (by have := HJ.out.2.1; simp only [List.length_singleton]; omega) ?_
                   intro A8 c8 w8 hown8 hg8 hat8
                   have hnx := winv_next hw3 HJ.out.1 ((Fr.refl No wc).drew) hown8 hg8 hat8
                   have k8 := blk_cell hnx.1 1
                   have z8 := blk_frozen hnx.1 1
                   simp at k8
                   have H8 := Lib.hid hnx.2
                   clear hnx hown8 hg8 hat8))
            all_goals
              go_wp2_with fail
              go_roundw
              case rel =>
                refine ⟨k + 1, .slice A8 (out.length + [y].length) c8, by omega, by go_num, ?_, ?_⟩
                · rw [HS.out.2.1]; simp [HN.out.1, HN.out.2]
                · show WInv w W _ F R base (wout x (ws.take (k + 1))) _
                  rw [HS.out.1]
                  simpa [HN.out.1, HN.out.2] using H8.out
              case measure => simp [intOf]; omega
        | false =>
          have HK : Hid (kl y.key x.key = false) := hkl
          cases hb : (y.key.toList == x.key.toList)
          · have hne : y.key ≠ x.key := by rw [beq_toList] at hb; simpa using hb
            have HN := Lib.hid hne
            clear hne
            go_wp2_with fail
            go_quiet (fail)
            go_wp2_with (at_builtin; refine ow_append tWr (ys := [x]) ((I.out.own.fr0 ((Fr.refl No wr).drewN _)).fr0 ((Fr.refl No _).alloc _)) _ _ (.agg #[.string ⟨#[]⟩, .slice none 0 0, .bool false]) 48 rfl rfl Try.underlying29 info_awr rfl (by decide) (by decide) rfl rfl rfl (Row.single (tWr_mk (a := x.key) (r := x.row) (g := x.gone) (A := Ar) (c := cr) HX.out.2 (((HX.out.1.fr0 ((Fr.refl No wr).drewN _)).fr0 ((Fr.refl No _).alloc _)).mono fun i hi hl => ?qf))) (At.block (heap_alloc_new _ _)) ?ql ?_
                         case qf => exact ⟨.inl ⟨.inr hi.1, hi.2⟩, fun he => by have := I.out.box i he; have := hi.2; omega⟩
                         case ql => have := HS.out.2.2.2.2; simp; omega
                         intro A7 c7 w7 hown7 hg7 hat7
                         have hnx := winv_next hw3 I.out ((Fr.refl No wr).drewN _) hown7 hg7 hat7
                         have k7 := blk_cell hnx.1 1
                         have z7 := blk_frozen hnx.1 1
                         have hB0s := hnx.2.fr.blk H.out.2.2.2.1 (by omega)
                         have hB1s := hnx.2.fr.blk H.out.2.2.2.2.1 (by omega)
                         have s1 := blk_cell hB0s 1
                         have s2 := blk_cell hB1s 0
                         have s3 := ((H.out.2.2.1.mono (G := fun i => i = w.heap.size + 3) fun _ _ f => f.elim).trans (hnx.2.fr.mono fun i _ hi => .inl hi)).cell HX0.out.1 HX0.out.2
                         simp only [List.length_singleton] at s1 s2 s3
                         simp at k7 s1 s2
                         have H7 := Lib.hid hnx.2
                         clear hnx hown7 hg7 hat7 hB0s hB1s)
            go_cut [46] (fun s46 wx => s46 = .bool true ∧ Hid (∃ v', WInv w W wx F R base (out ++ [x]) v'))
            case first =>
              go_quiet (fail)
              go_wp2_with fail
              go_meet
              exact ⟨rfl, _, H7.out.fr0 ((Fr.refl No _).drewN _)⟩
            case rest =>
              obtain ⟨rfl, HC⟩ := hcut
              obtain ⟨v1, I1⟩ := HC.out
              have hol1 : (out ++ [x]).length ≤ 22 := by have := HS.out.2.2.2.2; simp; try omega
              have hfr1 : Fr (fun i => i = w.heap.size + 3) w wc := (H.out.2.2.1.mono fun _ _ f => f.elim).trans (I1.fr.mono fun i _ hi => .inl hi)
              have hB0 := I1.fr.blk H.out.2.2.2.1 (by omega)
              have x0 := hfr1.cell HX0.out.1 HX0.out.2
              have x1 := hfr1.cell HX1.out.1 HX0.out.2
              have x2 := hfr1.cell HX1.out.2 HX0.out.2
              have a1 := blk_cell hB0 1
              have o1 := blk_cell I1.blk 1
              have oz := blk_frozen I1.blk 1
              simp at a1 o1
              have hrd1 := HS.out.2.2.2.1.fr hfr1 fun i hi e => by have := hi.2; omega
              have a1a := fun o => cell_alloc (w := wc) a1 o
              have o1a := fun o => cell_alloc (w := wc) o1 o
              have HJ := Lib.hid (And.intro I1 (And.intro hol1 hrd1))
              clear I1 hol1 hfr1 hB0 hrd1 HC
              go_wp2_with fail
              go_region_law
                (first
                  | (refine ow_append_step tWr (ys := [y]) ((HJ.out.1.own.fr0 ((Fr.refl No wc).alloc _)).fr0 ((Fr.refl No _).drew)) _ _ (.agg #[.string ⟨#[]⟩, .slice none 0 0, .bool false]) 48 rfl rfl Try.underlying29 info_awr rfl (by decide) (by decide) rfl rfl rfl
                       (Row.single (tWr_mk (a := y.key) (r := y.row) (g := y.gone) (A := A') (c := c') HS.out.2.2.1 (((HJ.out.2.2.fr0 ((Fr.refl No wc).alloc _)).fr0 ((Fr.refl No _).drew)).mono fun i hi hl => ⟨.inl ⟨.inl hi.1, hi.2⟩, fun he => by have := HJ.out.1.box i he; have := hi.2; omega⟩))) (At.block (heap_alloc_new wc _)) (by have := HJ.out.2.1; simp only [List.length_singleton]; omega) ?_
                     intro A8 c8 w8 hown8 hg8 hat8
                     have hnx := winv_next hw3 HJ.out.1 ((Fr.refl No wc).drew) hown8 hg8 hat8
                     have k8 := blk_cell hnx.1 1
                     have z8 := blk_frozen hnx.1 1
                     simp at k8
                     have H8 := Lib.hid hnx.2
                     clear hnx hown8 hg8 hat8))
              all_goals
                go_wp2_with fail
                go_roundw
                case rel =>
                  refine ⟨k + 1, .slice A8 ((out ++ [x]).length + [y].length) c8, by omega, by go_num, ?_, ?_⟩
                  · rw [HS.out.2.1]; simp [HN.out, HK.out]
                  · show WInv w W _ F R base (wout x (ws.take (k + 1))) _
                    rw [HS.out.1]
                    simpa [HN.out, HK.out] using H8.out
                case measure => simp [intOf]; omega
          · have heq : y.key = x.key := by rw [beq_toList] at hb; simpa using hb
            have HN := Lib.hid heq
            clear heq
            go_wp2_with fail
            go_quiet (fail)
            go_wp2_with (at_builtin; refine ow_append tWr (ys := [x]) ((I.out.own.fr0 ((Fr.refl No wr).drewN _)).fr0 ((Fr.refl No _).alloc _)) _ _ (.agg #[.string ⟨#[]⟩, .slice none 0 0, .bool false]) 48 rfl rfl Try.underlying29 info_awr rfl (by decide) (by decide) rfl rfl rfl (Row.single (tWr_mk (a := x.key) (r := x.row) (g := x.gone) (A := Ar) (c := cr) HX.out.2 (((HX.out.1.fr0 ((Fr.refl No wr).drewN _)).fr0 ((Fr.refl No _).alloc _)).mono fun i hi hl => ?qf))) (At.block (heap_alloc_new _ _)) ?ql ?_
                         case qf => exact ⟨.inl ⟨.inr hi.1, hi.2⟩, fun he => by have := I.out.box i he; have := hi.2; omega⟩
                         case ql => have := HS.out.2.2.2.2; simp; omega
                         intro A7 c7 w7 hown7 hg7 hat7
                         have hnx := winv_next hw3 I.out ((Fr.refl No wr).drewN _) hown7 hg7 hat7
                         have k7 := blk_cell hnx.1 1
                         have z7 := blk_frozen hnx.1 1
                         have hB0s := hnx.2.fr.blk H.out.2.2.2.1 (by omega)
                         have hB1s := hnx.2.fr.blk H.out.2.2.2.2.1 (by omega)
                         have s1 := blk_cell hB0s 1
                         have s2 := blk_cell hB1s 0
                         have s3 := ((H.out.2.2.1.mono (G := fun i => i = w.heap.size + 3) fun _ _ f => f.elim).trans (hnx.2.fr.mono fun i _ hi => .inl hi)).cell HX0.out.1 HX0.out.2
                         simp only [List.length_singleton] at s1 s2 s3
                         simp at k7 s1 s2
                         have H7 := Lib.hid hnx.2
                         clear hnx hown7 hg7 hat7 hB0s hB1s)
            go_cut [46] (fun s46 wx => s46 = .bool false ∧ Hid (∃ v', WInv w W wx F R base (out ++ [x]) v'))
            case first =>
              go_quiet (fail)
              go_wp2_with fail
              go_meet
              exact ⟨rfl, _, H7.out.fr0 ((Fr.refl No _).drewN _)⟩
            case rest =>
              obtain ⟨rfl, HC⟩ := hcut
              obtain ⟨v1, I1⟩ := HC.out
              have hol1 : (out ++ [x]).length ≤ 22 := by have := HS.out.2.2.2.2; simp; try omega
              have hfr1 : Fr (fun i => i = w.heap.size + 3) w wc := (H.out.2.2.1.mono fun _ _ f => f.elim).trans (I1.fr.mono fun i _ hi => .inl hi)
              have hB0 := I1.fr.blk H.out.2.2.2.1 (by omega)
              have x0 := hfr1.cell HX0.out.1 HX0.out.2
              have x1 := hfr1.cell HX1.out.1 HX0.out.2
              have x2 := hfr1.cell HX1.out.2 HX0.out.2
              have a1 := blk_cell hB0 1
              have o1 := blk_cell I1.blk 1
              have oz := blk_frozen I1.blk 1
              simp at a1 o1
              have hrd1 := HS.out.2.2.2.1.fr hfr1 fun i hi e => by have := hi.2; omega
              have HJ := Lib.hid I1
              clear I1 hol1 hfr1 hB0 hrd1 HC
              go_wp2_with fail
              go_roundw
              case rel =>
                refine ⟨k + 1, v1, by omega, by go_num, ?_, ?_⟩
                · rw [HS.out.2.1]; simp [HN.out, kl_irrefl]
                · show WInv w W _ F R base (wout x (ws.take (k + 1))) v1
                  rw [HS.out.1]
                  simpa [HN.out, kl_irrefl] using HJ.out
              case measure => simp [intOf]; omega
    · obtain rfl : k = ws.length := by omega
      rw [List.take_length] at I HV ⊢
      have hol : (wout x ws).length ≤ 21 := by
        unfold wout
        split
        · rw [wput_length H.out.2.2.2.2.2.2.2.1]
          split <;> omega
        · omega
      cases hd : wdone x ws with
      | true =>
        have hout : wout x ws = wput x ws := by unfold wout; rw [hd]; rfl
        rw [hout] at I HV hol
        have hv := HV.out
        subst hv
        obtain ⟨n, hnn⟩ : ∃ n, (wput x ws).length = n := ⟨_, rfl⟩
        have hwe := wwrite_eq (x := x) H.out.2.2.2.2.2.2.2.1 hn
        have hI := (I.out).own.rd
        have hfw2 : Fr No w wr := H.out.2.2.1.trans ((I.out).fr.mono fun i _ e => .inr (by omega))
        have hB2 := (I.out).fr.blk H.out.2.2.2.2.2.1 (by omega)
        have hw2 := H.out.1.fr0 hfw2
        have e1 := wend (F := F) (R := R) (base := base) hB2 hfw2 hw2 (fun i hi => ⟨by have := hi.2; omega, .inl hi.1⟩) H.out.2.2.2.2.2.2.2.2.1
        have e2 := wend (F := F) (R := R) (base := base) hB2 hfw2 hI.2.2 (fun i hi => by
          rcases hi with hi | hi
          · exact ⟨by have := hi.2; omega, by rcases hi.1 with h | h; exact .inl h; exact .inr (.inl h)⟩
          · exact ⟨by omega, .inr (.inr (by omega))⟩) (by have := hI.2.1; rw [← hI.1]; exact this)
        have q0 := blk_cell hB2 0
        have q1 := blk_cell hB2 1
        have y0 := blk_frozen hB2 0
        have y1 := blk_frozen hB2 1
        simp at q0 q1
        rw [hnn] at o1 hwe hol e2
        have HE := Lib.hid (And.intro hwe (And.intro e1 e2))
        have hn0 : (0 : Int) ≤ (n : Int) := Int.natCast_nonneg _
        clear hwe e1 e2 hI hfw2 hB2 hw2 hB0 hB1 hout hd
        rw [hnn] at I HV
        clear hnn
        by_cases h20 : 20 < n
        · have h20' : 20 < ((n : Int) : Int) := by omega
          go_wp2_with fail
          obtain ⟨hwe, ⟨d0, d1, tv, hfe⟩, _⟩ := HE.out
          rw [hwe, if_pos h20]
          exact bodyPost_ret (v := .tuple #[.agg #[.int .i64 base, .slice A ws.length c], .int .i64 1]) (by simp [results, Try.results34, go_sem, d0, d1]) rfl ⟨_, rfl, tv, hfe⟩
        · have h20' : ¬ 20 < ((n : Int) : Int) := by omega
          go_wp2_with fail
          obtain ⟨hwe, _, d0, d1, tv, hfe⟩ := HE.out
          rw [hwe, if_neg h20]
          exact bodyPost_ret (v := .tuple #[.agg #[.int .i64 base, .slice A2 n c2], .int .i64 0]) (by simp [results, Try.results34, go_sem, d0, d1]) rfl ⟨_, rfl, tv, hfe⟩
      | false =>
        have hout : wout x ws = ws := by unfold wout; rw [hd]; rfl
        have HOut := Lib.hid hout
        have HPut := Lib.hid (wput_all hd)
        have HLen := Lib.hid (show (wput x ws).length = ws.length + 1 by rw [wput_all hd]; simp)
        have hXR : Hid (Rd Ty.u8 wr (fun i => R i ∧ i < w.heap.size) Ar x.row ∧ x.row.length ≤ cr) := ⟨H.out.2.1.fr hfr fun i hi e => by have := hi.2; omega, H.out.2.2.2.2.2.2.2.2.2⟩
        have HX := hXR
        clear hXR hfr hout hd hB0 hB1
        by_cases h20 : 20 < ws.length + 1
        · have h20' : 20 < ((ws.length : Int) + 1 : Int) := by omega
          go_wp2_with (at_builtin; refine ow_append tWr (ys := [x]) (I.out.own.fr0 ((Fr.refl No wr).alloc _)) _ _ (.agg #[.string ⟨#[]⟩, .slice none 0 0, .bool false]) 48 rfl rfl Try.underlying29 info_awr rfl (by decide) (by decide) rfl rfl rfl (Row.single (tWr_mk (a := x.key) (r := x.row) (g := x.gone) (A := Ar) (c := cr) HX.out.2 ((HX.out.1.fr0 ((Fr.refl No wr).alloc _)).mono fun i hi hl => ?qf))) (At.block (heap_alloc_new _ _)) ?ql ?_
                       case qf => exact ⟨.inl ⟨.inr hi.1, hi.2⟩, fun he => by have := I.out.box i he; have := hi.2; omega⟩
                       case ql => have := HOut.out; rw [this]; simp; omega
                       intro A7 c7 w7 hown7 hg7 hat7
                       have hlen7 : (wout x ws).length + [x].length = ws.length + 1 := by rw [HOut.out]; rfl
                       rw [hlen7] at hown7 hat7 ⊢
                       have hnx := winv_next hw3 I.out (Fr.refl No wr) hown7 hg7 hat7
                       have k7 := blk_cell hnx.1 1
                       have k8 := blk_cell hnx.1 0
                       have z7 := blk_frozen hnx.1 1
                       simp at k7 k8
                       have I2 := hnx.2
                       rw [HOut.out, ← HPut.out] at I2
                       have hl2 := HLen.out
                       have hwe := wwrite_eq (x := x) H.out.2.2.2.2.2.2.2.1 hn
                       have hI := I2.own.rd
                       have hfw2 : Fr No w (w7.setCell ⟨w.heap.size + 3, 1, none⟩ (.slice A7 (ws.length + 1) c7)) := H.out.2.2.1.trans (I2.fr.mono fun i _ e => .inr (by omega))
                       have hB2 := I2.fr.blk H.out.2.2.2.2.2.1 (by omega)
                       have hB0s := I2.fr.blk H.out.2.2.2.1 (by omega)
                       have e1 := wend (F := F) (R := R) (base := base) hB2 hfw2 (H.out.1.fr0 hfw2) (fun i hi => ⟨by have := hi.2; omega, .inl hi.1⟩) H.out.2.2.2.2.2.2.2.2.1
                       have e2 := wend (F := F) (R := R) (base := base) hB2 hfw2 hI.2.2 (fun i hi => by
                         rcases hi with hi | hi
                         · exact ⟨by have := hi.2; omega, by rcases hi.1 with h | h; exact .inl h; exact .inr (.inl h)⟩
                         · exact ⟨by omega, .inr (.inr (by omega))⟩) (by have := hI.2.1; rw [← hI.1]; exact this)
                       rw [hl2] at e2 hwe
                       have q0 := blk_cell hB2 0
                       have q1 := blk_cell hB2 1
                       have y0 := blk_frozen hB2 0
                       have y1 := blk_frozen hB2 1
                       have s0 := blk_cell hB0s 0
                       have s1 := blk_cell hB0s 1
                       simp at q0 q1 s0 s1
                       have HE := Lib.hid (And.intro hwe (And.intro e1 e2))
                       clear hwe e1 e2 hI hfw2 hB2 hB0s hl2 I2 hnx hown7 hg7 hat7 hlen7)
          obtain ⟨hwe, ⟨d0, d1, tv, hfe⟩, _⟩ := HE.out
          rw [hwe, if_pos h20]
          exact bodyPost_ret (v := .tuple #[.agg #[.int .i64 base, .slice A ws.length c], .int .i64 1]) (by simp [results, Try.results34, go_sem, d0, d1]) rfl ⟨_, rfl, tv, hfe⟩
        · have h20' : ¬ 20 < ((ws.length : Int) + 1 : Int) := by omega
          go_wp2_with (at_builtin; refine ow_append tWr (ys := [x]) (I.out.own.fr0 ((Fr.refl No wr).alloc _)) _ _ (.agg #[.string ⟨#[]⟩, .slice none 0 0, .bool false]) 48 rfl rfl Try.underlying29 info_awr rfl (by decide) (by decide) rfl rfl rfl (Row.single (tWr_mk (a := x.key) (r := x.row) (g := x.gone) (A := Ar) (c := cr) HX.out.2 ((HX.out.1.fr0 ((Fr.refl No wr).alloc _)).mono fun i hi hl => ?qf))) (At.block (heap_alloc_new _ _)) ?ql ?_
                       case qf => exact ⟨.inl ⟨.inr hi.1, hi.2⟩, fun he => by have := I.out.box i he; have := hi.2; omega⟩
                       case ql => have := HOut.out; rw [this]; simp; omega
                       intro A7 c7 w7 hown7 hg7 hat7
                       have hlen7 : (wout x ws).length + [x].length = ws.length + 1 := by rw [HOut.out]; rfl
                       rw [hlen7] at hown7 hat7 ⊢
                       have hnx := winv_next hw3 I.out (Fr.refl No wr) hown7 hg7 hat7
                       have k7 := blk_cell hnx.1 1
                       have k8 := blk_cell hnx.1 0
                       have z7 := blk_frozen hnx.1 1
                       simp at k7 k8
                       have I2 := hnx.2
                       rw [HOut.out, ← HPut.out] at I2
                       have hl2 := HLen.out
                       have hwe := wwrite_eq (x := x) H.out.2.2.2.2.2.2.2.1 hn
                       have hI := I2.own.rd
                       have hfw2 : Fr No w (w7.setCell ⟨w.heap.size + 3, 1, none⟩ (.slice A7 (ws.length + 1) c7)) := H.out.2.2.1.trans (I2.fr.mono fun i _ e => .inr (by omega))
                       have hB2 := I2.fr.blk H.out.2.2.2.2.2.1 (by omega)
                       have hB0s := I2.fr.blk H.out.2.2.2.1 (by omega)
                       have e1 := wend (F := F) (R := R) (base := base) hB2 hfw2 (H.out.1.fr0 hfw2) (fun i hi => ⟨by have := hi.2; omega, .inl hi.1⟩) H.out.2.2.2.2.2.2.2.2.1
                       have e2 := wend (F := F) (R := R) (base := base) hB2 hfw2 hI.2.2 (fun i hi => by
                         rcases hi with hi | hi
                         · exact ⟨by have := hi.2; omega, by rcases hi.1 with h | h; exact .inl h; exact .inr (.inl h)⟩
                         · exact ⟨by omega, .inr (.inr (by omega))⟩) (by have := hI.2.1; rw [← hI.1]; exact this)
                       rw [hl2] at e2 hwe
                       have q0 := blk_cell hB2 0
                       have q1 := blk_cell hB2 1
                       have y0 := blk_frozen hB2 0
                       have y1 := blk_frozen hB2 1
                       have s0 := blk_cell hB0s 0
                       have s1 := blk_cell hB0s 1
                       simp at q0 q1 s0 s1
                       have HE := Lib.hid (And.intro hwe (And.intro e1 e2))
                       clear hwe e1 e2 hI hfw2 hB2 hB0s hl2 I2 hnx hown7 hg7 hat7 hlen7)
          obtain ⟨hwe, _, d0, d1, tv, hfe⟩ := HE.out
          rw [hwe, if_neg h20]
          exact bodyPost_ret (v := .tuple #[.agg #[.int .i64 base, .slice A7 (ws.length + 1) c7], .int .i64 0]) (by simp [results, Try.results34, go_sem, d0, d1]) rfl ⟨_, rfl, tv, hfe⟩
end Go.Proofs.Ytkcppngopdiljaa
