/- Layer 14 (tx): Scan, walked. -/
import Derived.Test.YtkcppngopdiljaaTx10
import Derived.Deep.DeepCutAuto
import Derived.Deep.RegionLaw
import Derived.Test.YtkcppngopdiljaaStore5
set_option linter.unusedVariables false
set_option linter.unusedSimpArgs false
namespace Go.Proofs.Ytkcppngopdiljaa
open Go.RowKit

/-- Behind DeleteFunc. -/
structure ScStart (W : World) (L0 : List Item) (A : Option Addr) (n c : Nat) (wx : World) : Prop where
  own : Ow tItemO 65 wx (fun i => W.heap.size ≤ i) (.slice A n c) L0
  fr : Fr (fun i => W.heap.size ≤ i) W wx
theorem ScStart.mk' {W w1 wx : World} {L0 : List Item} {A : Option Addr} {n c n' : Nat} (h : Ow tItemO 65 wx (fun i => W.heap.size ≤ i) (.slice A n c) L0) (f1 : Fr No W w1) (f2 : Fr (fun k => (Value.slice A n' c).ownBlock = some k) w1 wx) (hown : ∀ k, (Value.slice A n' c).ownBlock = some k → W.heap.size ≤ k) : ScStart W L0 A n c wx :=
  ⟨h, (f1.mono fun _ _ f => f.elim).trans (f2.mono fun k _ e => .inl (hown k e))⟩

set_option maxHeartbeats 2000000 in
set_option maxRecDepth 100000 in
theorem tx_scan_gen {lo hi : ByteArray} {w : World} {FX : Nat → Prop} {xb : Nat} {sp : Option Addr} {base : Int} {ws : List Wr} {s : Sto} {m : Nat} (hT : TxAt w FX xb base ws) (hS : Rising (s.kc.map Prod.fst)) (hsc : ∀ w' N, Fr No w w' → Calls Try.prog 45 #[.pointer sp, .int .i64 base, .string lo, .string hi, .int .i64 N] w' fun e w'' =>
      ∃ A c, e = .returned (.slice A (s.scan base lo hi N).length c) ∧ Ow tItemO 65 w'' (fun i => w'.heap.size ≤ i) (.slice A (s.scan base lo hi N).length c) (s.scan base lo hi N) ∧ Fr No w' w'') (hs : s.Small m) (hm : m ≤ 100000000) (hn : ws.length ≤ 1000000) (hrow : ∀ x ∈ ws, x.row.length ≤ 1000000000) (most : Int) (h0 : 0 ≤ most) :
    Calls Try.prog 26 #[.pointer (some ⟨xb, 0, none⟩), .pointer sp, .string lo, .string hi, .int .i64 most] w fun e w' =>
      ∃ A c, e = .returned (.slice A (xscan ws s base lo hi most).length c) ∧ Ow tItemO 65 w' (fun i => w.heap.size ≤ i) (.slice A (xscan ws s base lo hi most).length c) (xscan ws s base lo hi most) ∧ Fr No w w' := by
  have hT : TxAt w (fun k => FX k ∧ k < w.heap.size) xb base ws := hT.mono fun k hk hl => ⟨hk, hl⟩
  obtain ⟨W, hW⟩ : ∃ W, W = w.alloc (.cells #[.pointer (some ⟨xb, 0, none⟩)] 23) := ⟨_, rfl⟩
  have hfW : Fr No w W := by rw [hW]; exact (Fr.refl No w).alloc _
  have hbW : W.heap[w.heap.size]? = some (.cells #[.pointer (some ⟨xb, 0, none⟩)] 23 (0, 0)) := by rw [hW]; exact heap_alloc_new w _
  have hTW := hT.fr0 hfW
  obtain ⟨h1, mb, l, h2, h3, h4, h5, h6⟩ := hT
  have b0 := blk_cell hbW 0
  have x0 := blk_cell (hfW.blk h4 (fun f => f)) 0
  have x1 := blk_cell (hfW.blk h4 (fun f => f)) 1
  simp at b0 x0 x1
  have hm5 : MapIs W mb l := h5.stab (hfW.block _ h5.lt (fun f => f))
  obtain ⟨es, clk, hes, hsz⟩ := run_map_len hm5
  have hln : ∀ n, (Builtin.len_ #[73] 3 #[.map (some mb)]).run Try.prog (W.drewN n) = .ok (.int .i64 (ws.length : Int)) (W.drewN n) := fun n => by
    have := run_len_map (P := Try.prog) (w := W.drewN n) 73 3 mb es clk (by kernel_rfl) hes
    rw [this, hsz.trans (h6.len h5.nodup)]; rfl
  have hln1 : (Builtin.len_ #[73] 3 #[.map (some mb)]).run Try.prog W.drew = .ok (.int .i64 (ws.length : Int)) W.drew := hln 1
  obtain ⟨K, hK⟩ : ∃ K : Int, K = if (1099511627776 : Int) < most then 1099511627776 else most := ⟨_, rfl⟩
  have hmin : ∀ (ts : Array TypeId) (t : TypeId) (w : World), (Builtin.min_ ts t #[.int .i64 most, .int .i64 1099511627776]).run Try.prog w = .ok (.int .i64 K) w := fun ts t w => by
    rw [run_min_int2, ← hK]
  have hK0 : 0 ≤ K ∧ K ≤ 1099511627776 := by rw [hK]; split <;> omega
  obtain ⟨hK1, hK2⟩ := hK0
  have hsum : IntKind.i64.wrap (K + (ws.length : Int)) = K + (ws.length : Int) := IntWalk.i64_in _ (by omega)
  have hlnF : ∀ w' : World, w'.heap[mb]? = W.heap[mb]? → (Builtin.len_ #[73] 3 #[.map (some mb)]).run Try.prog w' = .ok (.int .i64 (ws.length : Int)) w' := fun w' f => by
    have := run_len_map (P := Try.prog) (w := w') 73 3 mb es clk (by kernel_rfl) (f.trans hes)
    rw [this, hsz.trans (h6.len h5.nodup)]; rfl
  have HLN := Lib.hid hlnF
  have HSL := Lib.hid (scan_len hs base lo hi (K + (ws.length : Int)))
  clear hlnF
  obtain ⟨L0, hL0⟩ : ∃ L0, (s.scan base lo hi (K + (ws.length : Int))).filter (fun x => !ownP ws x.1) = L0 := ⟨_, rfl⟩
  have HL0 := Lib.hid hL0
  have HSR := Lib.hid (And.intro hS (And.intro hs hK))
  have HF0 := Lib.hid (scan_free (ws := ws) hS hL0)
  have HROW := Lib.hid hrow
  have hlen : ∀ done n v wr r, ScInv W mb r l ws lo hi L0 done n v wr → (L0 ++ done.filterMap (selK ws lo hi)).length ≤ 1000000000 := fun done n v wr r I => by
    have a1 := List.length_filterMap_le (selK ws lo hi) done
    have a2 := I.rng.len
    have a3 := h6.len h5.nodup
    have a4 : L0.length ≤ m := by rw [← hL0]; exact Nat.le_trans (List.length_filter_le _ _) (scan_len hs base lo hi _)
    rw [List.length_append]; omega
  have LEN := Lib.hid hlen
  clear hlen
  clear hL0
  have hWs : W.heap.size = w.heap.size + 1 := by rw [hW]; simp
  have hmW : mb < W.heap.size := by have := h5.lt; omega
  have hxW : xb < w.heap.size := blk_lt h4
  have hTB : TxAt W (fun k => FX k ∧ k < w.heap.size) xb base ws := hTW
  have hscan := fun w' (f : Fr No W w') => hsc w' (K + (ws.length : Int)) (hfW.trans (f.mono fun _ _ f => f.elim))
  have hlt5 : mb < w.heap.size := h5.lt
  have H := Lib.hid (And.intro hscan (And.intro hTB (And.intro hfW (And.intro hm5 (And.intro h6 (And.intro hbW hS))))))
  have hb0 := b0
  clear hscan hsc hTB hfW hm5 h6 h5 h4 h3 h2 h1 hbW hS hes hsz hln hTW hK hs hrow
  go_enter Try.func26, Try.ntmps26
  go_wp2_with fail
  rw [← hW]
  clear hW
  go_upto_region 3 with fail
  go_cut [11] (fun s11 wx => ∃ (A : Option Addr) (n c : Nat) (wy : World), s11 = .slice A n c ∧ wy = wx ∧ Hid (ScStart W L0 A n c wy))
  case first =>
   go_region_held3 (fun w' => w'.cell? ⟨w.heap.size, 0, none⟩ = some (.pointer (some ⟨xb, 0, none⟩)) ∧ w'.cell? ⟨xb, 0, none⟩ = some (.int .i64 base) ∧ w'.cell? ⟨xb, 1, none⟩ = some (.map (some mb)) ∧ (Builtin.len_ #[73] 3 #[.map (some mb)]).run Try.prog w' = .ok (.int .i64 (ws.length : Int)) w')
     (first
       | exact ⟨b0, x0, x1, hln1⟩
       | exact ⟨q0, q1, q2, q3⟩)
     (first
       | (go_at_call 45; refine (H.out.1 _ (by repeat (first | exact Fr.refl _ _ | apply Fr.drew | apply Fr.drewN))).mono ?_; rintro e1 w1 ⟨A1, c1, rfl, ho1, hf1⟩
          have g1 : Fr No W w1 := Fr.trans (by repeat (first | assumption | exact Fr.refl _ _ | apply Fr.drew | apply Fr.drewN)) (hf1.mono fun _ _ f => f.elim)
          have q0 := g1.cell b0 (fun f => f)
          have q1 := g1.cell x0 (fun f => f)
          have q2 := g1.cell x1 (fun f => f)
          have q3 := HLN.out _ (g1.block mb hmW (fun f => f))
          have hown : ∀ k, (Value.slice A1 (s.scan base lo hi (K + (ws.length : Int))).length c1).ownBlock = some k → W.heap.size ≤ k := fun k h => (ho1.own h).1
          have hdel := delete_ok 46 #[.pointer (some ⟨w.heap.size, 0, none⟩)] (ownP ws) ho1 (Nat.le_trans HSL.out (by omega)) Try.call46 (fun i hi A' n c' w' f =>
            scan1_fn ((H.out.2.1.fr0 g1).fr f fun k hk h => by have := hown _ h; have := hk.2; omega) (f.cell q0 (fun h => by have h2 : W.heap.size ≤ w.heap.size := hown _ h; omega)) _ A' n c')
          have HO1 := Lib.hid (And.intro hdel (And.intro g1 (And.intro hown ho1)))
          clear ho1 hf1 g1 hdel hown)
       | (go_at_call 44
          refine HO1.out.1.mono ?_
          rintro e2 w2 ⟨n2, rfl, ho2, hf2⟩
          rw [HL0.out] at ho2
          have q0 : w2.cell? ⟨w.heap.size, 0, none⟩ = some (.pointer (some ⟨xb, 0, none⟩)) := hf2.cell q0 (fun h => by have h2 : W.heap.size ≤ w.heap.size := HO1.out.2.2.1 _ h; omega)
          have q1 : w2.cell? ⟨xb, 0, none⟩ = some (.int .i64 base) := hf2.cell q1 (fun h => by have h2 : W.heap.size ≤ xb := HO1.out.2.2.1 _ h; omega)
          have q2 : w2.cell? ⟨xb, 1, none⟩ = some (.map (some mb)) := hf2.cell q2 (fun h => by have h2 : W.heap.size ≤ xb := HO1.out.2.2.1 _ h; omega)
          have q3 := HLN.out w2 ((hf2.block mb (by have := HO1.out.2.1.size; omega) (fun h => by have h2 := HO1.out.2.2.1 _ h; omega)).trans (HO1.out.2.1.block mb hmW (fun f => f)))
          have HO2 := Lib.hid (And.intro ho2 hf2)
          clear ho2 hf2))
   all_goals
     go_wp2_with fail
     go_meet
     exact ⟨A1, n2, c1, _, rfl, rfl, ScStart.mk' HO2.out.1 HO1.out.2.1 HO2.out.2 HO1.out.2.2.1⟩
  case rest =>
    obtain ⟨A, n, c, wx, rfl, hwx, S⟩ := hcut
    subst hwx
    have b0 : wx.cell? ⟨w.heap.size, 0, none⟩ = some (.pointer (some ⟨xb, 0, none⟩)) := S.out.fr.cell b0 (fun h => by have h2 : W.heap.size ≤ w.heap.size := h; omega)
    have x1 : wx.cell? ⟨xb, 1, none⟩ = some (.map (some mb)) := S.out.fr.cell x1 (fun h => by have h2 : W.heap.size ≤ xb := h; omega)
    have hmI : MapIs wx mb l := H.out.2.2.2.1.stab (S.out.fr.block mb hmW (fun h => by omega))
    have HM := Lib.hid (And.intro hmI (And.intro hmI.nodup S.out.fr.size))
    clear hmI
    go_wp2_with (at_range; refine wpList_mapIs_range rfl _ 73 rfl _ _ Try.underlying73 rfl HM.out.1 ?_; intro w3 hrg hf3 hs3; have HR := Lib.hid (And.intro hrg hf3); clear hrg hf3 hs3)
    go_frame
    go_loopw [11] (fun v wr => ∃ (done : List (ByteArray × Value)) (n : Nat) (A : Option Addr) (c : Nat), v = .slice A n c ∧ Hid (ScInv W mb wx.heap.size l ws lo hi L0 done n (.slice A n c) wr)) (fun _ wr => wr.rangeLeft mb wx.heap.size)
    case atStart =>
      obtain rfl := S.out.own.rd.1
      exact ⟨[], _, A, c, rfl, HR.out.1, by simp, by simpa using (S.out.own.mono fun k hk hl => ⟨hk, by omega⟩).fr0 HR.out.2, S.out.fr.trans (HR.out.2.mono fun _ _ f => f.elim)⟩
    case round =>
      obtain ⟨done, n, A, c, rfl, I⟩ := hrel
      have hheld : ∀ p ∈ l, ∃ x, wfind p.1 ws = some x ∧ x.key = p.1 ∧ WrIs wr (fun i => i < w.heap.size) p.2 x := fun p hp => by
        obtain ⟨x, a1, a2, a3⟩ := H.out.2.2.2.2.1.entry HM.out.2.1 hp
        refine ⟨x, a1, a2, ((a3.mono (G := fun i => i < w.heap.size) fun i hi _ => hi.1.2).stab fun k hk hl => ?_)⟩
        exact ((H.out.2.2.1.mono (G := fun i => W.heap.size ≤ i) fun _ _ f => f.elim).trans (I.out.fr.mono fun k _ h => .inl h)).block k hl (fun h => by have hk' : k < w.heap.size := hk; have h' : W.heap.size ≤ k := h; omega)
      have HH := Lib.hid hheld
      clear hheld
      go_wp2_with (at_next; refine wpList_mapIs_next rfl _ rfl rfl I.out.rng (fun hperm => ?_) (fun p w5 hp hrg hf5 hs5 hent => ?_); (have HP := Lib.hid hperm; clear hperm); rotate_left; (obtain ⟨x, hx, hkey, A', c', hv, hc', hrd⟩ := HH.out p hp; obtain ⟨k, v5⟩ := p; dsimp only at hx hkey hv; subst hv; subst hkey; obtain ⟨key, row, gone⟩ := x; dsimp only at hx hc' hrd hent; have HN := Lib.hid (And.intro hp (And.intro hrg (And.intro hf5 (And.intro hs5 (And.intro hx (And.intro hc' hrd)))))); clear hp hrg hf5 hs5 hx hc' hrd; cases gone))
      · have hs := selK_skip (v := .agg #[.string key, .slice A' row.length c', .bool false]) (lo := lo) (hi := hi) HN.out.2.2.2.2.1 (.inr (inB_lo (by assumption)))
        have HS := Lib.hid hs
        clear hs
        go_roundw
        case rel => exact ⟨_, n, A, c, rfl, I.out.skip (Nat.le_trans S.out.fr.size (Nat.le_refl _)) HN.out.2.1 HN.out.2.2.1 HS.out ((Fr.refl No w5).alloc _)⟩
        case measure =>
          have a1 := I.out.rng.left
          have a2 := (HN.out.2.1.fr ((Fr.refl No w5).alloc (.cells #[.string key, .slice A' row.length c', .bool false] 43)) (fun f => f) (fun f => f)).left
          simp only [List.length_append, List.length_singleton] at a2
          omega
      · have hin := selK_in (v := .agg #[.string key, .slice A' row.length c', .bool false]) HN.out.2.2.2.2.1 (inB_yes (lo := lo) (hi := hi) (by assumption) (Or.inl (by simpa using (by assumption : hi.toList = []))))
        obtain ⟨wb, hwb⟩ : ∃ wb, wb = w5.alloc (.cells #[.string key, .slice A' row.length c', .bool false] 43) := ⟨_, rfl⟩
        have hfb : Fr No w5 wb := by rw [hwb]; exact (Fr.refl No w5).alloc _
        have hbb : wb.heap[w5.heap.size]? = some (.cells #[.string key, .slice A' row.length c', .bool false] 43 (0, 0)) := by rw [hwb]; exact heap_alloc_new w5 _
        have k0 := blk_cell hbb 0
        have k1 := blk_cell hbb 1
        simp at k0 k1
        have hcl := clone_ok (c := c') (((HN.out.2.2.2.2.2.2.fr HN.out.2.2.1 (fun k hk e => by have hk' : k < w.heap.size := hk; have := HM.out.2.2; omega)).fr0 hfb).fr0 ((Fr.refl No wb).drew)) rfl (by have := HROW.out _ (wfind_some HN.out.2.2.2.2.1).1; simp only [] at this; omega)
        have hI := I.out
        have HB := Lib.hid (And.intro hcl (And.intro hfb (And.intro hin hI)))
        clear hcl hfb hin hI hbb
        rw [← hwb]
        clear hwb hent
        go_region_law
          (first
            | (go_simp; go_at_call 31; refine HB.out.1.mono ?_; rintro e w6 ⟨A1, c1, rfl, ho6, hf6⟩
               have g6 : Fr No wb w6 := ((Fr.refl No wb).drew).trans (hf6.mono fun _ _ f => f.elim)
               have k0 := g6.cell k0 (fun f => f)
               have HO6 := Lib.hid (And.intro ho6 g6)
               clear ho6 hf6 g6)
            | (refine ow_append_step tItemO (ys := [(key, row)]) (F := fun i => W.heap.size ≤ i ∧ i ≠ wx.heap.size) (((HB.out.2.2.2.own.fr HN.out.2.2.1 (fun k hk => hk.2)).fr0 HB.out.2.1).fr0 (by repeat (first | exact HO6.out.2 | apply Fr.alloc | apply Fr.drew | apply Fr.drewN))) _ _ _ 40 rfl rfl Try.underlying62 info_item rfl (by decide) (by decide) rfl rfl rfl
                 (Row.single (tItemO_mk (A := A1) (c := c1) (by
                    refine ((HO6.out.1.fr0 (by repeat (first | exact Fr.refl _ _ | apply Fr.alloc | apply Fr.drew | apply Fr.drewN)))).mono fun k hk _ => ?_
                    have hk' : wb.heap.size ≤ k := hk
                    have a1 := HB.out.2.1.size
                    have a2 := HN.out.2.2.1.size
                    have a3 := HB.out.2.2.2.fr.size
                    have a4 := HN.out.2.1.lt
                    exact ⟨⟨by omega, by omega⟩, fun he => by have := (HB.out.2.2.2.own.own he).2; omega⟩))) (At.block (heap_alloc_new _ _)) (by have := LEN.out _ _ _ _ _ I.out; simp only [List.length_singleton]; omega) ?_
               intro A3 c3 w7 hown7 hg7 hat7
               have hadd := HB.out.2.2.2.add hmW HM.out.2.2 HN.out.2.1 HN.out.2.2.1 HN.out.2.2.2.1 HB.out.2.2.1 (HB.out.2.1.trans (Fr.mono (F := No) (by repeat (first | exact HO6.out.2 | apply Fr.alloc | apply Fr.drew | apply Fr.drewN)) fun _ _ f => f.elim)) (by rw [HB.out.2.2.2.len]; rfl) hown7 hg7
               have HA := Lib.hid hadd
               clear hadd hown7 hg7 hat7))
        all_goals
          go_wp2_with fail
          go_roundw
          case rel => (repeat apply Exists.intro); exact ⟨⟨_, n + 1, A3, c3, by rw [HB.out.2.2.2.len, List.length_append], HA.out⟩, rfl⟩
          case measure =>
            have a1 := HB.out.2.2.2.rng.left
            have a2 := HA.out.rng.left
            simp only [List.length_append, List.length_singleton] at a2
            omega
      · have hin := selK_in (v := .agg #[.string key, .slice A' row.length c', .bool false]) HN.out.2.2.2.2.1 (inB_yes (lo := lo) (hi := hi) (by assumption) (by assumption))
        obtain ⟨wb, hwb⟩ : ∃ wb, wb = w5.alloc (.cells #[.string key, .slice A' row.length c', .bool false] 43) := ⟨_, rfl⟩
        have hfb : Fr No w5 wb := by rw [hwb]; exact (Fr.refl No w5).alloc _
        have hbb : wb.heap[w5.heap.size]? = some (.cells #[.string key, .slice A' row.length c', .bool false] 43 (0, 0)) := by rw [hwb]; exact heap_alloc_new w5 _
        have k0 := blk_cell hbb 0
        have k1 := blk_cell hbb 1
        simp at k0 k1
        have hcl := clone_ok (c := c') (((HN.out.2.2.2.2.2.2.fr HN.out.2.2.1 (fun k hk e => by have hk' : k < w.heap.size := hk; have := HM.out.2.2; omega)).fr0 hfb).fr0 ((Fr.refl No wb).drew)) rfl (by have := HROW.out _ (wfind_some HN.out.2.2.2.2.1).1; simp only [] at this; omega)
        have hI := I.out
        have HB := Lib.hid (And.intro hcl (And.intro hfb (And.intro hin hI)))
        clear hcl hfb hin hI hbb
        rw [← hwb]
        clear hwb hent
        go_region_law
          (first
            | (go_simp; go_at_call 31; refine HB.out.1.mono ?_; rintro e w6 ⟨A1, c1, rfl, ho6, hf6⟩
               have g6 : Fr No wb w6 := ((Fr.refl No wb).drew).trans (hf6.mono fun _ _ f => f.elim)
               have k0 := g6.cell k0 (fun f => f)
               have HO6 := Lib.hid (And.intro ho6 g6)
               clear ho6 hf6 g6)
            | (refine ow_append_step tItemO (ys := [(key, row)]) (F := fun i => W.heap.size ≤ i ∧ i ≠ wx.heap.size) (((HB.out.2.2.2.own.fr HN.out.2.2.1 (fun k hk => hk.2)).fr0 HB.out.2.1).fr0 (by repeat (first | exact HO6.out.2 | apply Fr.alloc | apply Fr.drew | apply Fr.drewN))) _ _ _ 40 rfl rfl Try.underlying62 info_item rfl (by decide) (by decide) rfl rfl rfl
                 (Row.single (tItemO_mk (A := A1) (c := c1) (by
                    refine ((HO6.out.1.fr0 (by repeat (first | exact Fr.refl _ _ | apply Fr.alloc | apply Fr.drew | apply Fr.drewN)))).mono fun k hk _ => ?_
                    have hk' : wb.heap.size ≤ k := hk
                    have a1 := HB.out.2.1.size
                    have a2 := HN.out.2.2.1.size
                    have a3 := HB.out.2.2.2.fr.size
                    have a4 := HN.out.2.1.lt
                    exact ⟨⟨by omega, by omega⟩, fun he => by have := (HB.out.2.2.2.own.own he).2; omega⟩))) (At.block (heap_alloc_new _ _)) (by have := LEN.out _ _ _ _ _ I.out; simp only [List.length_singleton]; omega) ?_
               intro A3 c3 w7 hown7 hg7 hat7
               have hadd := HB.out.2.2.2.add hmW HM.out.2.2 HN.out.2.1 HN.out.2.2.1 HN.out.2.2.2.1 HB.out.2.2.1 (HB.out.2.1.trans (Fr.mono (F := No) (by repeat (first | exact HO6.out.2 | apply Fr.alloc | apply Fr.drew | apply Fr.drewN)) fun _ _ f => f.elim)) (by rw [HB.out.2.2.2.len]; rfl) hown7 hg7
               have HA := Lib.hid hadd
               clear hadd hown7 hg7 hat7))
        all_goals
          go_wp2_with fail
          go_roundw
          case rel => (repeat apply Exists.intro); exact ⟨⟨_, n + 1, A3, c3, by rw [HB.out.2.2.2.len, List.length_append], HA.out⟩, rfl⟩
          case measure =>
            have a1 := HB.out.2.2.2.rng.left
            have a2 := HA.out.rng.left
            simp only [List.length_append, List.length_singleton] at a2
            omega
      · have hs := selK_skip (v := .agg #[.string key, .slice A' row.length c', .bool false]) (lo := lo) (hi := hi) HN.out.2.2.2.2.1 (.inr (inB_hi (by have := ‹hi.toList.isEmpty = false ∧ Op.bytesLess key.toList hi.toList = false›; exact this.1) (by have := ‹hi.toList.isEmpty = false ∧ Op.bytesLess key.toList hi.toList = false›; exact this.2)))
        have HS := Lib.hid hs
        clear hs
        go_roundw
        case rel => exact ⟨_, n, A, c, rfl, I.out.skip (Nat.le_trans S.out.fr.size (Nat.le_refl _)) HN.out.2.1 HN.out.2.2.1 HS.out ((Fr.refl No w5).alloc _)⟩
        case measure =>
          have a1 := I.out.rng.left
          have a2 := (HN.out.2.1.fr ((Fr.refl No w5).alloc (.cells #[.string key, .slice A' row.length c', .bool false] 43)) (fun f => f) (fun f => f)).left
          simp only [List.length_append, List.length_singleton] at a2
          omega
      · have hs := selK_skip (v := .agg #[.string key, .slice A' row.length c', .bool true]) (lo := lo) (hi := hi) HN.out.2.2.2.2.1 (.inl rfl)
        have HS := Lib.hid hs
        clear hs
        go_roundw
        case rel => exact ⟨_, n, A, c, rfl, I.out.skip (Nat.le_trans S.out.fr.size (Nat.le_refl _)) HN.out.2.1 HN.out.2.2.1 HS.out ((Fr.refl No w5).alloc _)⟩
        case measure =>
          have a1 := I.out.rng.left
          have a2 := (HN.out.2.1.fr ((Fr.refl No w5).alloc (.cells #[.string key, .slice A' row.length c', .bool true] 43)) (fun f => f) (fun f => f)).left
          simp only [List.length_append, List.length_singleton] at a2
          omega
      · obtain ⟨hf1, hf2⟩ := HF0.out
        have hnd := selK_nodup (lo := lo) (hi := hi) HM.out.2.1 HP.out hf1 hf2
        obtain ⟨XS, hXS⟩ : ∃ XS, L0 ++ done.filterMap (selK ws lo hi) = XS := ⟨_, rfl⟩
        have hown := I.out.own
        have hln := LEN.out _ _ _ _ _ I.out
        rw [hXS] at hnd hown hln
        obtain rfl := hown.rd.1
        have hsort := sort_items hown (by omega) hnd
        obtain ⟨U, hU, hU1, hU2⟩ : ∃ U : Nat, (if most < (XS.length : Int) then most else (XS.length : Int)) = (U : Int) ∧ U ≤ XS.length ∧ ∀ ys : List Item, ys.length = XS.length → ys.take U = ys.take most.toNat := by
          by_cases hc : most < (XS.length : Int)
          · exact ⟨most.toNat, by rw [if_pos hc]; omega, by omega, fun _ _ => rfl⟩
          · exact ⟨XS.length, by rw [if_neg hc], Nat.le_refl _, fun ys h => by rw [List.take_of_length_le (by omega), List.take_of_length_le (by omega)]⟩
        have hmin2 : ∀ (ts : Array TypeId) (t : TypeId) (w : World), (Builtin.min_ ts t #[.int .i64 (XS.length : Int), .int .i64 most]).run Try.prog w = .ok (.int .i64 (U : Int)) w := fun ts t w => by
          rw [run_min_int2, hU]
        have hcut2 := fun W => cut_hi_at (P := Try.prog) 62 65 2 .i64 Try.underlying62 (by kernel_rfl) A XS.length c U hU1 hown.rd.2.1 W
        have hown2 : ∀ k, (Value.slice A XS.length c).ownBlock = some k → W.heap.size ≤ k := fun k hk => (hown.own hk).1.1
        have HX := Lib.hid (And.intro hsort (And.intro hU2 (And.intro hXS (And.intro hown2 I.out.fr))))
        have HU := Lib.hid hU1
        clear hsort hU hU2 hXS hown hnd hown2 hln hU1 hf1 hf2
        refine HX.out.1.mono ?_
        rintro e9 w9 ⟨rfl, ys, hperm, hrise, ho9, hf9⟩
        have HY := Lib.hid (And.intro hperm (And.intro hrise (And.intro ho9 hf9)))
        clear hperm hrise ho9 hf9
        go_wp2_with fail
        go_ret
        have hlen := HY.out.1.length_eq
        have e1 := HX.out.2.1 ys hlen
        have e2 := scan_fin H.out.2.2.2.2.1 HSR.out.1 HSR.out.2.1 hm h0 HSR.out.2.2 HL0.out HP.out (by rw [HX.out.2.2.1]; exact HY.out.1) HY.out.2.1
        have e3 : (xscan ws s base lo hi most).length = U := by rw [← e2, ← e1, List.length_take, hlen]; exact Nat.min_eq_left HU.out
        have e4 := HY.out.2.2.1.takeN HU.out
        rw [e1, e2] at e4
        exact ⟨A, c, by rw [e3]; rfl, by rw [e3]; exact e4.mono fun k hk _ => by have := hk.1; omega, (H.out.2.2.1.trans (HX.out.2.2.2.2.mono fun k hk h => .inr (by have h' : W.heap.size ≤ k := h; omega))).trans (HY.out.2.2.2.mono fun k _ h => .inr (by have := HX.out.2.2.2.1 k h; omega))⟩

theorem tx_scan_ok {w : World} {FX FS : Nat → Prop} {xb sb : Nat} {base : Int} {ws : List Wr} {s : Sto} {m : Nat} (hT : TxAt w FX xb base ws) (hS : StoreAt w FS sb s) (hs : s.Small m) (hm : m ≤ 100000000) (hn : ws.length ≤ 1000000) (hrow : ∀ x ∈ ws, x.row.length ≤ 1000000000) (lo hi : ByteArray) (most : Int) :
    Calls Try.prog 26 #[.pointer (some ⟨xb, 0, none⟩), .pointer (some ⟨sb, 0, none⟩), .string lo, .string hi, .int .i64 most] w fun e w' =>
      ∃ A c, e = .returned (.slice A (xscan ws s base lo hi most).length c) ∧ Ow tItemO 65 w' (fun i => w.heap.size ≤ i) (.slice A (xscan ws s base lo hi most).length c) (xscan ws s base lo hi most) ∧ Fr No w w' := by
  by_cases h0 : 0 ≤ most
  · exact tx_scan_gen hT hS.rising (fun w' N f => store_scan_own (hS.fr0 f) hs hm base lo hi N) hs hm hn hrow most h0
  · refine (tx_scan_neg xb _ lo hi most (by omega) w).mono ?_
    rintro e w' ⟨rfl, hf⟩
    have e : xscan ws s base lo hi most = [] := by unfold xscan; rw [show most.toNat = 0 by omega, List.take_zero]
    rw [e]
    exact ⟨none, 0, rfl, Ow.nil, hf⟩
theorem tx_scan_nostore {w : World} {FX : Nat → Prop} {xb : Nat} {base : Int} {ws : List Wr} (hT : TxAt w FX xb base ws) (hn : ws.length ≤ 1000000) (hrow : ∀ x ∈ ws, x.row.length ≤ 1000000000) (lo hi : ByteArray) (most : Int) :
    Calls Try.prog 26 #[.pointer (some ⟨xb, 0, none⟩), .pointer none, .string lo, .string hi, .int .i64 most] w fun e w' =>
      ∃ A c, e = .returned (.slice A (xscan ws Sto.empty base lo hi most).length c) ∧ Ow tItemO 65 w' (fun i => w.heap.size ≤ i) (.slice A (xscan ws Sto.empty base lo hi most).length c) (xscan ws Sto.empty base lo hi most) ∧ Fr No w w' := by
  by_cases h0 : 0 ≤ most
  · refine tx_scan_gen (s := Sto.empty) (m := 0) hT List.Pairwise.nil (fun w' N f => (store_scan_nil base N lo hi w').mono ?_) ⟨Int.le_refl _, Int.le_refl _, Nat.le_refl _, (fun p hp => by cases hp), (fun p hp => by cases hp)⟩ (by omega) hn hrow most h0
    rintro e w' ⟨rfl, rfl⟩
    have e : Sto.empty.scan base lo hi N = [] := by unfold Sto.scan Sto.all; simp [Sto.empty]
    rw [e]
    exact ⟨none, 0, rfl, Ow.nil, Fr.refl _ _⟩
  · refine (tx_scan_neg xb _ lo hi most (by omega) w).mono ?_
    rintro e w' ⟨rfl, hf⟩
    have e : xscan ws Sto.empty base lo hi most = [] := by unfold xscan; rw [show most.toNat = 0 by omega, List.take_zero]
    rw [e]
    exact ⟨none, 0, rfl, Ow.nil, hf⟩
end Go.Proofs.Ytkcppngopdiljaa
