/- The law HistoryTimes. -/
import Derived.Test.YtfaooohenicfbaaGreatDoorTurned
import Derived.Test.YtfaooohenicfbaaGreatDoorBare
import Derived.OpenShut
import Derived.Deep.RegionHeld3
set_option linter.unusedVariables false
set_option linter.unusedSimpArgs false
namespace Go.Proofs.YtfaooohenicfbaaGreatDoor
open Go.RowKit

/-- Four small numbers. -/
structure Q4 where
  a : Int
  b : Int
  c : Int
  d : Int
def small8 (x : Int) : Prop := -128 ≤ x ∧ x ≤ 127
def tQ4 : Ty Q4 where
  sz := 4
  K := fun _ _ q cs => cs = [.int .i8 q.a, .int .i8 q.b, .int .i8 q.c, .int .i8 q.d] ∧ small8 q.a ∧ small8 q.b ∧ small8 q.c ∧ small8 q.d
  len := by rintro _ _ _ _ ⟨rfl, _⟩; rfl
  one := by
    rintro _ _ x _ ⟨rfl, _⟩ u hu
    simp only [List.mem_cons, List.not_mem_nil, or_false] at hu
    rcases hu with rfl | rfl | rfl | rfl <;> rfl
  stab := fun h _ => h
  mono := fun h _ => h
theorem q4_at {w : World} {F : Nat → Prop} {A : Option Addr} {l : List Q4} (h : Rd tQ4 w F A l) {i : Nat} (hi : i < l.length) : ∃ ad, A = some ad ∧ (w.cell? (ad.add (i * 4)) = some (.int .i8 l[i].a) ∧ w.cell? ⟨(ad.add (i * 4)).block, (ad.add (i * 4)).off + 1, none⟩ = some (.int .i8 l[i].b) ∧ w.cell? ⟨(ad.add (i * 4)).block, (ad.add (i * 4)).off + 2, none⟩ = some (.int .i8 l[i].c) ∧ w.cell? ⟨(ad.add (i * 4)).block, (ad.add (i * 4)).off + 3, none⟩ = some (.int .i8 l[i].d)) ∧ small8 l[i].a ∧ small8 l[i].b ∧ small8 l[i].c ∧ small8 l[i].d := by
  obtain ⟨ad, cs, e, hk, h0, h1⟩ := h.get' hi (by decide)
  obtain ⟨rfl, hs⟩ := hk
  exact ⟨ad, e, ⟨h0 _ rfl, h1 1 _ (by decide) rfl, h1 2 _ (by decide) rfl, h1 3 _ (by decide) rfl⟩, hs⟩

/-- The entry that numbers come to. -/
def mkT (near : Bool) (i : Nat) (q : Q4) : En :=
  if near then ⟨Int.tmod q.a 3, 0, 2 * i + 1 + Int.tmod q.b 2, 2 * i + 1 + Int.tmod q.b 2 + Int.tmod q.c 2, 2 * i + 1 + Int.tmod q.b 2 + Int.tmod q.c 2 + Int.tmod q.d 3, 0⟩
  else ⟨Int.tmod q.a 3, 0, q.b, q.c, q.d, 0⟩
def mksT (near : Bool) (l : List Q4) : List En := l.mapIdx fun i q => mkT near i q

theorem app_en {w wr V : World} {B : Option Addr} {d k : Nat} {l : List En} (x : En) (hO : Ow tEn 37 wr (fun i => w.heap.size ≤ i) (.slice B k d) l) (hk : l.length = k) (hb : k ≤ 100000) (hf : Fr No w wr) (hV : Fr No wr V) :
    ∃ A1 c1 w1, (Builtin.append_ #[24, 24] 24 #[.slice B k d, .slice (some ⟨V.heap.size, 0, none⟩) 1 1]).run Tryz.prog (V.alloc (enR x)) = .ok (.slice A1 (k + 1) c1) w1 ∧
      Ow tEn 37 w1 (fun i => w.heap.size ≤ i) (.slice A1 (k + 1) c1) (l ++ [x]) ∧ Fr No w w1 := by
  have hfW : Fr No wr (V.alloc (enR x)) := hV.alloc _
  have hA : At (V.alloc (enR x)) (some ⟨V.heap.size, 0, none⟩) x.cells := At.block (heap_alloc_new V (enR x))
  obtain ⟨A1, c1', w1, hrun, hO1, hg, _⟩ := run_ow_append (P := Tryz.prog) (ty := 24) (ty' := 24) tEn (hO.fr0 hfW) zeroEn 192 Tryz.underlying24 info_enR rfl (by decide) (by decide) 1 (ys := [x]) (row_en x) hA (by rw [hk]; simp; omega)
  rw [hk] at hrun hO1
  simp only [List.length_singleton] at hrun hO1
  refine ⟨A1, c1', w1, hrun, hO1.mono fun i hi _ => ?_, (hf.trans (hfW.mono fun _ _ f => f.elim)).grown hg fun b hb => .inr (hO.own hb).1⟩
  have h1 := hf.size
  have h2 := hfW.size
  rcases hi with hi | hi <;> omega
theorem mksT_take (near : Bool) (l : List Q4) {k : Nat} (h : k < l.length) : (mksT near l).take (k + 1) = (mksT near l).take k ++ [mkT near k l[k]] := by
  have e : (mksT near l)[k]? = some (mkT near k l[k]) := by unfold mksT; rw [List.getElem?_mapIdx, List.getElem?_eq_getElem h]; rfl
  rw [List.take_add_one, e]
  rfl
theorem mksT_len (near : Bool) (l : List Q4) : (mksT near l).length = l.length := by unfold mksT; simp

set_option maxHeartbeats 4000000 in
set_option maxRecDepth 100000 in
theorem law_times {w : World} {F : Nat → Prop} {A : Option Addr} {c : Nat} {l : List Q4} {near : Bool} (h : Rd tQ4 w F A l) (hk : KAt w) : Calls Tryz.prog 4 #[.slice A l.length c, .bool near] w fun e w' => e = .returned (.bool true) ∧ Fr No w w' := by
  have H := Lib.hid h
  have HB := Lib.hid fun (w1 : World) (f : Fr No w w1) => bare_ok (hk.fr0 f)
  have hl63 := h.1
  clear h hk
  by_cases h40 : l.length ≤ 40
  · have hli : (l.length : Int) ≤ 40 := by omega
    go_enter Tryz.func4, Tryz.ntmps4
    go_wp2_with fail
    refine (HB.out _ (Fr.refl _ _)).mono ?_
    rintro e w1 ⟨rfl, hf1⟩
    have H1 := Lib.hid (And.intro (H.out.fr0 hf1) hf1)
    clear hf1
    go_wp2_with fail
    go_loopw [5, 6] (fun v iv wr => ∃ (k : Nat) (B : Option Addr) (d : Nat), k ≤ l.length ∧ v = .slice B k d ∧ iv = .int .i64 (k : Int) ∧ Hid (Ow tEn 37 wr (fun i => w1.heap.size ≤ i) (.slice B k d) ((mksT near l).take k) ∧ Fr No w1 wr)) (fun _ iv _ => l.length - (intOf iv).toNat)
    case atStart => exact ⟨0, none, 0, Nat.zero_le _, rfl, rfl, Ow.nil, Fr.refl _ _⟩
    case round =>
      obtain ⟨k, B, d, hk, rfl, rfl, I⟩ := hrel
      have hk0 : (0 : Int) ≤ (k : Int) := Int.natCast_nonneg _
      by_cases hlt : k < l.length
      · have hk1 : (k : Int) < (l.length : Int) := by omega
        obtain ⟨ad, rfl, ⟨x0, x1, x2, x3⟩, s0, s1, s2, s3⟩ := q4_at (H1.out.1.fr0 I.out.2) hlt
        obtain ⟨q, hq⟩ : ∃ q, l[k] = q := ⟨_, rfl⟩
        rw [hq] at x0 x1 x2 x3 s0 s1 s2 s3
        obtain ⟨qa, qb, qc, qd⟩ := q
        unfold small8 at s0 s1 s2 s3
        simp only at x0 x1 x2 x3 s0 s1 s2 s3
        have wa : IntKind.i64.wrap qa = qa := IntWalk.i64_in _ (by omega)
        have wb : IntKind.i64.wrap qb = qb := IntWalk.i64_in _ (by omega)
        have wc : IntKind.i64.wrap qc = qc := IntWalk.i64_in _ (by omega)
        have wd : IntKind.i64.wrap qd = qd := IntWalk.i64_in _ (by omega)
        obtain ⟨W, hW⟩ : ∃ W, W = (wr.alloc (enR ⟨Int.tmod qa 3, 0, qb, qc, qd, 0⟩)).drew := ⟨_, rfl⟩
        have hfW : Fr No wr W := by rw [hW]; exact ((Fr.refl No wr).alloc _).drew
        have hbW : W.heap[wr.heap.size]? = some (enR ⟨Int.tmod qa 3, 0, qb, qc, qd, 0⟩) := by rw [hW]; exact heap_alloc_new _ _
        have hszW : W.heap.size = wr.heap.size + 1 := by rw [hW]; simp
        have htk := mksT_take near l hlt
        rw [hq] at htk
        have HI := Lib.hid (And.intro hfW (And.intro hbW (And.intro hszW (And.intro htk I.out))))
        clear hfW hbW hszW htk hq I
        go_upto_region 7 with fail
        go_region_held3 (fun w' => w'.cell? (ad.add (k * 4)) = some (.int .i8 qa) ∧ w'.cell? ⟨(ad.add (k * 4)).block, (ad.add (k * 4)).off + 1, none⟩ = some (.int .i8 qb) ∧ w'.cell? ⟨(ad.add (k * 4)).block, (ad.add (k * 4)).off + 2, none⟩ = some (.int .i8 qc) ∧ w'.cell? ⟨(ad.add (k * 4)).block, (ad.add (k * 4)).off + 3, none⟩ = some (.int .i8 qd))
          (first | exact ⟨x0, x1, x2, x3⟩ | exact ⟨cell_alloc x0 _, cell_alloc x1 _, cell_alloc x2 _, cell_alloc x3 _⟩) (fail)
        rw [← hW]
        clear hW
        obtain ⟨hfW, hbW, hszW, htk, hO, hfr⟩ := HI.out
        have y1 := hfW.cell x1 (fun f => f)
        have y2 := hfW.cell x2 (fun f => f)
        have y3 := hfW.cell x3 (fun f => f)
        obtain ⟨c0, c1, c2, c3, c4, c5, c6, c7, c8, c9, c10, c11, c12, c13, c14⟩ := en_of_blk hbW
        simp only at c0 c1 c11 c12 c13 c14
        have z11 := blk_frozen hbW 11
        have z12 := blk_frozen hbW 12
        have z13 := blk_frozen hbW 13
        have HX := Lib.hid (And.intro x2 x3)
        clear x0 x1 x2 x3
        cases near with
        | false =>
          obtain ⟨A1, c1', w1', hrun, hO1, hf1⟩ := app_en (V := W) ⟨Int.tmod qa 3, 0, qb, qc, qd, 0⟩ hO (by rw [List.length_take, mksT_len]; omega) (by omega) hfr hfW
          rw [show mkT false k ⟨qa, qb, qc, qd⟩ = ⟨Int.tmod qa 3, 0, qb, qc, qd, 0⟩ from rfl] at htk
          rw [← htk] at hO1
          have HZ := Lib.hid (And.intro hO1 hf1)
          clear hO1 hf1 htk hO hfr hfW hbW hszW
          go_wp2_with (at_builtin; refine wpList_plain rfl fun K hK => wp_append_run _ _ _ _ rfl rfl rfl hrun (hK _ _ ?_))
          go_roundw
          case rel => exact ⟨k + 1, A1, c1', by omega, rfl, by go_num, HZ.out.1, HZ.out.2⟩
          case measure => simp [intOf]; omega
        | true =>
          have tb : -1 ≤ Int.tmod qb 2 ∧ Int.tmod qb 2 ≤ 1 := by
            have h1 := Int.lt_tmod_of_pos qb (show (0 : Int) < 2 by decide)
            have h2 := Int.tmod_lt_of_pos qb (show (0 : Int) < 2 by decide)
            omega
          have tc : -1 ≤ Int.tmod qc 2 ∧ Int.tmod qc 2 ≤ 1 := by
            have h1 := Int.lt_tmod_of_pos qc (show (0 : Int) < 2 by decide)
            have h2 := Int.tmod_lt_of_pos qc (show (0 : Int) < 2 by decide)
            omega
          have td : -2 ≤ Int.tmod qd 3 ∧ Int.tmod qd 3 ≤ 2 := by
            have h1 := Int.lt_tmod_of_pos qd (show (0 : Int) < 3 by decide)
            have h2 := Int.tmod_lt_of_pos qd (show (0 : Int) < 3 by decide)
            omega
          obtain ⟨V1, hV1⟩ : ∃ V, V = W.setCell ⟨wr.heap.size, 11, none⟩ (.int .i64 (2 * (k : Int) + 1 + Int.tmod qb 2)) := ⟨_, rfl⟩
          have hb1V : V1.heap[wr.heap.size]? = some (enR ⟨Int.tmod qa 3, 0, 2 * (k : Int) + 1 + Int.tmod qb 2, qc, qd, 0⟩) := by rw [hV1]; exact blk_set hbW 11 _
          have hfV1 : Fr No wr V1 := by rw [hV1]; exact hfW.set _ (.inr (Nat.le_refl _)) _
          have HV1 := Lib.hid (And.intro hb1V hfV1)
          clear hb1V hfV1
          go_wp2_with fail
          rw [← hV1]
          clear hV1
          clear c0 c1 c2 c3 c4 c5 c6 c7 c8 c9 c10 c11 c12 c13 c14 z11 z12 z13 y2 y3
          obtain ⟨c0, c1, c2, c3, c4, c5, c6, c7, c8, c9, c10, c11, c12, c13, c14⟩ := en_of_blk HV1.out.1
          simp only at c0 c1 c11 c12 c13 c14
          have z11 := blk_frozen HV1.out.1 11
          have z12 := blk_frozen HV1.out.1 12
          have z13 := blk_frozen HV1.out.1 13
          have y2 := HV1.out.2.cell (a := ⟨(ad.add (k * 4)).block, (ad.add (k * 4)).off + 2, none⟩) HX.out.1 (fun f => f)
          have y3 := HV1.out.2.cell (a := ⟨(ad.add (k * 4)).block, (ad.add (k * 4)).off + 3, none⟩) HX.out.2 (fun f => f)
          obtain ⟨V2, hV2⟩ : ∃ V, V = (V1.setCell ⟨wr.heap.size, 12, none⟩ (.int .i64 (2 * (k : Int) + 1 + Int.tmod qb 2 + Int.tmod qc 2))).drew := ⟨_, rfl⟩
          have hb2V : V2.heap[wr.heap.size]? = some (enR ⟨Int.tmod qa 3, 0, 2 * (k : Int) + 1 + Int.tmod qb 2, 2 * (k : Int) + 1 + Int.tmod qb 2 + Int.tmod qc 2, qd, 0⟩) := by rw [hV2]; exact blk_set HV1.out.1 12 _
          have hfV2 : Fr No wr V2 := by rw [hV2]; exact (HV1.out.2.set _ (.inr (Nat.le_refl _)) _).drew
          have HV2 := Lib.hid (And.intro hb2V hfV2)
          clear hb2V hfV2
          go_region
          rw [← hV2]
          clear hV2
          clear c0 c1 c2 c3 c4 c5 c6 c7 c8 c9 c10 c11 c12 c13 c14 z11 z12 z13 y2 y3
          obtain ⟨c0, c1, c2, c3, c4, c5, c6, c7, c8, c9, c10, c11, c12, c13, c14⟩ := en_of_blk HV2.out.1
          simp only at c0 c1 c11 c12 c13 c14
          have z11 := blk_frozen HV2.out.1 11
          have z12 := blk_frozen HV2.out.1 12
          have z13 := blk_frozen HV2.out.1 13
          have y2 := HV2.out.2.cell (a := ⟨(ad.add (k * 4)).block, (ad.add (k * 4)).off + 2, none⟩) HX.out.1 (fun f => f)
          have y3 := HV2.out.2.cell (a := ⟨(ad.add (k * 4)).block, (ad.add (k * 4)).off + 3, none⟩) HX.out.2 (fun f => f)
          go_wp2_with fail
          obtain ⟨V3, hV3⟩ : ∃ V, V = (V2.setCell ⟨wr.heap.size, 13, none⟩ (.int .i64 (2 * (k : Int) + 1 + Int.tmod qb 2 + Int.tmod qc 2 + Int.tmod qd 3))).drew := ⟨_, rfl⟩
          have hb3V : V3.heap[wr.heap.size]? = some (enR ⟨Int.tmod qa 3, 0, 2 * (k : Int) + 1 + Int.tmod qb 2, 2 * (k : Int) + 1 + Int.tmod qb 2 + Int.tmod qc 2, 2 * (k : Int) + 1 + Int.tmod qb 2 + Int.tmod qc 2 + Int.tmod qd 3, 0⟩) := by rw [hV3]; exact blk_set HV2.out.1 13 _
          have hfV3 : Fr No wr V3 := by rw [hV3]; exact (HV2.out.2.set _ (.inr (Nat.le_refl _)) _).drew
          have HV3 := Lib.hid (And.intro hb3V hfV3)
          clear hb3V hfV3
          go_region
          rw [← hV3]
          clear hV3
          clear c0 c1 c2 c3 c4 c5 c6 c7 c8 c9 c10 c11 c12 c13 c14 z11 z12 z13 y2 y3
          obtain ⟨c0, c1, c2, c3, c4, c5, c6, c7, c8, c9, c10, c11, c12, c13, c14⟩ := en_of_blk HV3.out.1
          simp only at c0 c1 c11 c12 c13 c14
          have z11 := blk_frozen HV3.out.1 11
          have z12 := blk_frozen HV3.out.1 12
          have z13 := blk_frozen HV3.out.1 13
          have y2 := HV3.out.2.cell (a := ⟨(ad.add (k * 4)).block, (ad.add (k * 4)).off + 2, none⟩) HX.out.1 (fun f => f)
          have y3 := HV3.out.2.cell (a := ⟨(ad.add (k * 4)).block, (ad.add (k * 4)).off + 3, none⟩) HX.out.2 (fun f => f)
          obtain ⟨A1, c1', w1', hrun, hO1, hf1⟩ := app_en (V := V3) ⟨Int.tmod qa 3, 0, 2 * (k : Int) + 1 + Int.tmod qb 2, 2 * (k : Int) + 1 + Int.tmod qb 2 + Int.tmod qc 2, 2 * (k : Int) + 1 + Int.tmod qb 2 + Int.tmod qc 2 + Int.tmod qd 3, 0⟩ hO (by rw [List.length_take, mksT_len]; omega) (by omega) hfr HV3.out.2
          rw [show mkT true k ⟨qa, qb, qc, qd⟩ = ⟨Int.tmod qa 3, 0, 2 * (k : Int) + 1 + Int.tmod qb 2, 2 * (k : Int) + 1 + Int.tmod qb 2 + Int.tmod qc 2, 2 * (k : Int) + 1 + Int.tmod qb 2 + Int.tmod qc 2 + Int.tmod qd 3, 0⟩ from rfl] at htk
          rw [← htk] at hO1
          have HZ := Lib.hid (And.intro hO1 hf1)
          clear hO1 hf1 htk hO hfr hfW hbW hszW
          go_wp2_with (at_builtin; refine wpList_plain rfl fun K hK => wp_append_run _ _ _ _ rfl rfl rfl hrun (hK _ _ ?_))
          go_roundw
          case rel => exact ⟨k + 1, A1, c1', by omega, rfl, by go_num, HZ.out.1, HZ.out.2⟩
          case measure => simp [intOf]; omega
      · obtain rfl : k = l.length := by omega
        have hO := I.out.1
        rw [List.take_of_length_le (by rw [mksT_len]; exact Nat.le_refl _)] at hO
        obtain ⟨X, hX⟩ : ∃ X, mksT near l = X := ⟨_, rfl⟩
        rw [hX] at hO
        have hlen : X.length = l.length := by rw [← hX, mksT_len]
        have hR := hO.rd.2.2
        have HT := Lib.hid fun (w' : World) (f : Fr No wr w') => turned_ok (c := d) (hR.fr0 f) (by omega)
        have HR := Lib.hid fun (w' : World) (f : Fr No wr w') => ref_times (c := d) (hR.fr0 f)
        rw [hlen] at HT HR
        have hfw := H1.out.2.trans (I.out.2.mono fun _ _ f => f.elim)
        have HF := Lib.hid hfw
        clear hO hR hfw hX I
        go_wp2_with fail
        refine (HT.out _ (Fr.refl _ _)).mono ?_
        rintro e w2 ⟨A2, c2, rfl, hO2, hf2⟩
        have h2 := times_ok (c := c2) hO2.rd.2.2
        rw [hlen] at h2
        have H2 := Lib.hid (And.intro h2 hf2)
        clear hO2 hf2 h2
        go_wp2_with fail
        refine H2.out.1.mono ?_
        rintro e w3 ⟨rfl, hf3⟩
        rw [times_same]
        have hf3' := H2.out.2.trans (hf3.mono fun _ _ f => f.elim)
        have H3 := Lib.hid (And.intro (HR.out _ hf3') hf3')
        clear hf3 hf3'
        go_wp2_with fail
        refine H3.out.1.mono ?_
        rintro e w4 ⟨rfl, hf4⟩
        have H4 := Lib.hid (HF.out.trans ((H3.out.2.trans (hf4.mono fun _ _ f => f.elim)).mono fun _ _ f => f.elim))
        clear hf4
        cases timesR X with
        | false =>
          go_wp2_with fail
          go_ret
          exact ⟨rfl, H4.out⟩
        | true =>
          go_wp2_with fail
          go_ret
          exact ⟨rfl, H4.out⟩
  · have hli : (40 : Int) < (l.length : Int) := by omega
    go_enter Tryz.func4, Tryz.ntmps4
    go_wp2_with fail
    refine (HB.out _ (Fr.refl _ _)).mono ?_
    rintro e w1 ⟨rfl, hf1⟩
    have H1 := Lib.hid hf1
    clear hf1
    go_wp2_with fail
    refine (HB.out _ H1.out).mono ?_
    rintro e w2 ⟨rfl, hf2⟩
    have H2 := Lib.hid (H1.out.trans (hf2.mono fun _ _ f => f.elim))
    clear hf2
    go_wp2_with fail
    go_ret
    exact ⟨rfl, H2.out⟩
end Go.Proofs.YtfaooohenicfbaaGreatDoor
