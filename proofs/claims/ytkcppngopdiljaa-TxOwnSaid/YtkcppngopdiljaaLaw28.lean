/- Laws of layer 14 (tx): TxOwn. -/
import Derived.Test.YtkcppngopdiljaaLaw20
import Derived.Test.YtkcppngopdiljaaTx13
import Derived.Test.YtkcppngopdiljaaOpen
set_option linter.unusedVariables false
set_option linter.unusedSimpArgs false
namespace Go.Proofs.Ytkcppngopdiljaa
open Go.RowKit

theorem u8_of_wf {n : Int} (hw : (Lit.int .u8 n).wf = true) : ∃ q : UInt8, n = (q.toNat : Int) := by
  have h1 : 0 ≤ n ∧ n ≤ 255 := by
    unfold Lit.wf at hw
    simp [IntKind.wrap, IntKind.signed, IntKind.bits] at hw
    have a := hw.1
    have b := hw.2
    simp [IntKind.min, IntKind.max, IntKind.signed, IntKind.bits] at a b
    omega
  refine ⟨UInt8.ofNat n.toNat, ?_⟩
  rw [UInt8.toNat_ofNat']
  omega
def kK : ByteArray := ⟨#[107]⟩
def ownWs (p : Bs) : List Wr := [⟨kK, p, false⟩]
theorem ownWs_put (p : Bs) : wwrite [] ⟨kK, p, false⟩ = (ownWs p, 0) := rfl
theorem ownWs_find (p : Bs) : wfind kK (ownWs p) = some ⟨kK, p, false⟩ := by unfold wfind ownWs; simp
theorem ownWs_scan (p : Bs) : xscan (ownWs p) Sto.empty 0 ⟨#[]⟩ ⟨#[]⟩ 5 = [(kK, p)] := by
  have h1 : xall (ownWs p) Sto.empty 0 ⟨#[]⟩ ⟨#[]⟩ = [(kK, p)] := by
    have hr : rise (Sto.empty.kc.map Prod.fst ++ (ownWs p).map Wr.key) = [kK] := rfl
    unfold xall
    rw [hr]
    have : xsel (ownWs p) Sto.empty 0 ⟨#[]⟩ ⟨#[]⟩ kK = some (kK, p) := by
      refine xsel_some.2 ⟨rfl, ?_, ?_⟩
      · unfold xget; rw [ownWs_find]; rfl
      · rw [inB_iff]; refine ⟨?_, .inl rfl⟩; rw [kl_eq]; simp [toList_data]
    rw [List.filterMap_cons, this]; rfl
  unfold xscan
  rw [h1]; rfl

/-- What stands in a loop that writes bytes over. -/
structure OwnJ (w wr : World) (FX FR : Nat → Prop) (xb : Nat) (ob : Option (Nat × Obj)) (ws : List Wr) (A : Option Addr) (n c : Nat) : Prop where
  row : ∃ xs : Bs, xs.length = n ∧ Ow Ty.u8 5 wr FR (.slice A n c) xs
  tx : TxAt wr FX xb 0 ws
  fr : Fr No w wr
  hold : ∀ x, ob = some x → wr.heap[x.1]? = some x.2
  dis : ∀ i, FR i → ¬ FX i ∧ w.heap.size ≤ i ∧ ∀ x, ob = some x → i ≠ x.1
theorem OwnJ.step {w wr : World} {FX FR : Nat → Prop} {xb : Nat} {ob : Option (Nat × Obj)} {ws : List Wr} {A : Option Addr} {n c i : Nat} (I : OwnJ w wr FX FR xb ob ws A n c) (hi : i < n) :
    ∃ g, A = some ⟨g, 0, none⟩ ∧ (∃ u, wr.cell? ⟨g, i, none⟩ = some u) ∧ wr.frozen? ⟨g, i, none⟩ = false ∧ ∀ b : UInt8, OwnJ w (wr.setCell ⟨g, i, none⟩ (.int .u8 (b.toNat : Int))) FX FR xb ob ws A n c := by
  obtain ⟨⟨xs, h1, h2⟩, h3, h4, h5, h6⟩ := I
  obtain ⟨g, e, hg, hlt, hc, hz, hst⟩ := ow_u8 h2 (i := i) (by omega)
  have hd := h6 g hg
  refine ⟨g, e, hc, hz, fun b => ?_⟩
  have hfr : Fr (fun k => k = g) wr (wr.setCell ⟨g, i, none⟩ (.int .u8 (b.toNat : Int))) := (Fr.refl (fun k => k = g) wr).set ⟨g, i, none⟩ (.inl rfl) _
  refine ⟨⟨xs.set i b, by rw [List.length_set]; exact h1, hst b⟩, h3.fr hfr fun k hk e => hd.1 (by rw [← e]; exact hk), h4.set _ (.inr hd.2.1) _, fun x hx => blk_far (h5 x hx) (p := ⟨g, i, none⟩) (fun e => hd.2.2 x hx e.symm) _, h6⟩

/-- The one element's cells, and its row. -/
theorem ownJ_item {w : World} {F : Nat → Prop} {A : Option Addr} {c : Nat} {k : ByteArray} {p : Bs} (h : Ow tItemO 65 w F (.slice A 1 c) [(k, p)]) :
    ∃ g A9 c9, A = some ⟨g, 0, none⟩ ∧ (∀ w' : World, w'.heap[g]? = w.heap[g]? → w'.cell? ⟨g, 0, none⟩ = some (.string k) ∧ w'.cell? ⟨g, 1, none⟩ = some (.slice A9 p.length c9)) ∧ g < w.heap.size ∧ Ow Ty.u8 5 w (fun i => F i ∧ i ≠ g) (.slice A9 p.length c9) p := by
  obtain ⟨cs, h1, h2, h3⟩ := h
  obtain ⟨x, d, rfl, hx, hd⟩ := h2
  obtain rfl : d = [] := hd
  obtain ⟨A9, c9, rfl, ho⟩ := tItemO_open hx
  rcases h1.2 with ⟨h4, h5⟩ | ⟨g, cap, cur, h4, hb, hg, r⟩
  · cases h5
  · injection h4 with h5 h6 h7
    subst h5
    subst h7
    refine ⟨g, A9, c9, rfl, fun w' hw => ⟨(World.cell?_of_block (a := ⟨g, 0, none⟩) hw).trans ?_, (World.cell?_of_block (a := ⟨g, 1, none⟩) hw).trans ?_⟩, blk_lt hg, ho.mono fun i hi _ => ⟨hi.1, fun e => hi.2 (by rw [e]; rfl)⟩⟩
    · exact h1.cellAt 0 (by show 0 < 1 * 2; omega)
    · exact h1.cellAt 1 (by show 1 < 1 * 2; omega)
theorem ownJ_write {w : World} {F : Nat → Prop} {A : Option Addr} {c : Nat} {k : ByteArray} {p : Bs} {gn : Bool} (h : Ow tWrO 43 w F (.slice A 1 c) [⟨k, p, gn⟩]) :
    ∃ g A9 c9, A = some ⟨g, 0, none⟩ ∧ (∀ w' : World, w'.heap[g]? = w.heap[g]? → w'.cell? ⟨g, 0, none⟩ = some (.string k) ∧ w'.cell? ⟨g, 1, none⟩ = some (.slice A9 p.length c9)) ∧ g < w.heap.size ∧ Ow Ty.u8 5 w (fun i => F i ∧ i ≠ g) (.slice A9 p.length c9) p := by
  obtain ⟨cs, h1, h2, h3⟩ := h
  obtain ⟨x, d, rfl, hx, hd⟩ := h2
  obtain rfl : d = [] := hd
  obtain ⟨A9, c9, rfl, ho⟩ := tWrO_open hx
  rcases h1.2 with ⟨h4, h5⟩ | ⟨g, cap, cur, h4, hb, hg, r⟩
  · cases h5
  · injection h4 with h5 h6 h7
    subst h5
    subst h7
    refine ⟨g, A9, c9, rfl, fun w' hw => ⟨(World.cell?_of_block (a := ⟨g, 0, none⟩) hw).trans ?_, (World.cell?_of_block (a := ⟨g, 1, none⟩) hw).trans ?_⟩, blk_lt hg, ho.mono fun i hi _ => ⟨hi.1, fun e => hi.2 (by rw [e]; rfl)⟩⟩
    · exact h1.cellAt 0 (by show 0 < 1 * 3; omega)
    · exact h1.cellAt 1 (by show 1 < 1 * 3; omega)

set_option maxHeartbeats 4000000 in
set_option maxRecDepth 100000 in
theorem law_txown_ok {w : World} {G : Nat → Prop} {E : Option Addr} {e1 : Nat} {p : Bs} (q : UInt8) (h : Rd Ty.u8 w G E p) (hp : p.length ≤ 40) :
    Calls Try.prog 7 #[.slice E p.length e1, .int .u8 (q.toNat : Int)] w fun e w' => e = .returned (.bool true) ∧ Fr No w w' := by
  have hpi : (p.length : Int) ≤ 40 := by omega
  have H := Lib.hid (h.mono fun i hi hl => (⟨hi, hl⟩ : G i ∧ i < w.heap.size))
  clear h
  go_enter Try.func7, Try.ntmps7
  go_wp2_with fail
  refine (law_both w).mono ?_
  rintro e1 w1 ⟨rfl, hf1⟩
  have HF1 := Lib.hid hf1
  clear hf1
  go_wp2_with fail
  refine (tx_new 0 w1).mono ?_
  rintro e2 w2 ⟨xb, rfl, hx2, hf2⟩
  have HX2 := Lib.hid (And.intro (hx2.mono fun i hi hl => (⟨hi, hl⟩ : w1.heap.size ≤ i ∧ i < w2.heap.size)) (And.intro (HF1.out.trans (hf2.mono fun _ _ f => f.elim)) (And.intro HF1.out.size hf2.size)))
  clear hx2 hf2
  go_wp2_with fail
  have hj := ref_join (w := w2) (c := e1) (d := 0) (H.out.fr0 HX2.out.2.1) (Rd.nil (t := Ty.u8) (w := w2) (F := fun i => G i ∧ i < w.heap.size) (A := none)) (by simp; omega)
  simp only [List.append_nil, List.length_nil] at hj
  refine hj.mono ?_
  rintro e3 w3 ⟨A3, c3, rfl, ho3, hf3⟩
  have hput := tx_put (A := A3) (n := p.length) (c := c3) (row := p) kK (HX2.out.1.fr0 hf3) ho3.rd.2.2 (by simp) rfl (by omega)
  rw [ownWs_put] at hput
  have H3 := Lib.hid (And.intro hput (And.intro (ho3.mono fun i hi hl => (⟨hi, hl⟩ : w2.heap.size ≤ i ∧ i < w3.heap.size)) (And.intro (HX2.out.2.1.trans (hf3.mono fun _ _ f => f.elim)) hf3.size)))
  clear hput ho3 hf3 hj
  go_wp2_with fail
  refine H3.out.1.mono ?_
  rintro e4 w4 ⟨rfl, hx4, hf4⟩
  obtain ⟨FX, hFX⟩ : ∃ FX : Nat → Prop, (fun i => ((w1.heap.size ≤ i ∧ i < w2.heap.size) ∨ w3.heap.size ≤ i) ∧ i < w4.heap.size) = FX := ⟨_, rfl⟩
  have hx4' : TxAt w4 FX xb 0 (ownWs p) := by rw [← hFX]; exact hx4.mono fun i hi hl => ⟨hi, hl⟩
  have hlt : ∀ i, FX i → i < w4.heap.size := by rw [← hFX]; exact fun i hi => hi.2
  have hz4 := hf4.size
  have hI : OwnJ w w4 FX (fun i => w2.heap.size ≤ i ∧ i < w3.heap.size) xb none (ownWs p) A3 p.length c3 := by
    have h2 := HX2.out.2.2
    refine ⟨⟨p, rfl, H3.out.2.1.fr hf4 fun i hi h => by have := hi.1; have := h.2; omega⟩, hx4', H3.out.2.2.1.trans (hf4.mono fun i _ h => .inr (by have := h.1; omega)), fun x hx => (by cases hx), fun i hi => ⟨fun h => ?_, by have := hi.1; omega, fun x hx => (by cases hx)⟩⟩
    rw [← hFX] at h
    have h1 := hi.1; have h3 := hi.2
    rcases h.1 with h | h
    · have := h.2; omega
    · omega
  have HI := Lib.hid (And.intro hI (And.intro hlt (show w.heap.size ≤ w4.heap.size by have := HX2.out.2.2; have := H3.out.2.2.2; omega)))
  clear hI hx4 hx4' hf4 hlt hFX hz4
  go_wp2_with fail
  go_loopw [7] (fun v wr => ∃ k : Nat, k ≤ p.length ∧ v = .int .i64 k ∧ Hid (OwnJ w wr FX (fun i => w2.heap.size ≤ i ∧ i < w3.heap.size) xb none (ownWs p) A3 p.length c3 ∧ w4.heap.size ≤ wr.heap.size)) (fun v _ => p.length - (intOf v).toNat)
  case atStart => exact ⟨0, Nat.zero_le _, rfl, HI.out.1, Nat.le_refl _⟩
  case round =>
    obtain ⟨k, hk, rfl, I⟩ := hrel
    have hk0 : (0 : Int) ≤ (k : Int) := Int.natCast_nonneg _
    skip
    by_cases hlt : k < p.length
    · have hk1 : (k : Int) < (p.length : Int) := by omega
      obtain ⟨g, rfl, ⟨u, hu⟩, hz, hst⟩ := I.out.1.step hlt
      obtain ⟨wq, hwq⟩ : ∃ wq, wq = wr := ⟨_, rfl⟩
      subst hwq
      have HST := Lib.hid (And.intro (hst q) (show w4.heap.size ≤ (wq.setCell ⟨g, k, none⟩ (.int .u8 (q.toNat : Int))).heap.size by have := I.out.2; simpa [World.setCell] using this))
      clear hst
      go_wp2_with fail
      go_roundw
      case rel => exact ⟨k + 1, by omega, by go_num, HST.out⟩
      case measure => simp [intOf]; omega
    · obtain rfl : k = p.length := by omega
      obtain ⟨wq, hwq⟩ : ∃ wq, wq = wr := ⟨_, rfl⟩
      subst hwq
      go_wp2_with fail
      refine (store_new wq).mono ?_
      rintro e6 w6 ⟨sb6, rfl, _, hf6⟩
      have hx6 := I.out.1.tx.fr0 hf6
      have hg6 := tx_get_own (s := some ⟨sb6, 0, none⟩) kK hx6 (ownWs_find p) (by show p.length ≤ _; omega)
      have HG6 := Lib.hid (And.intro hg6 (And.intro hx6 (And.intro (I.out.1.fr.trans (hf6.mono fun _ _ f => f.elim)) hf6.size)))
      clear hx6 hg6 hf6
      go_wp2_with fail
      refine HG6.out.1.mono ?_
      rintro e7 w7 ⟨A7, c7, rfl, ho7, hf7⟩
      have hI : OwnJ w w7 FX (fun i => w6.heap.size ≤ i) xb none (ownWs p) A7 p.length c7 := by
        have h1 := HG6.out.2.2.2; have h2 := I.out.2; have h3 := HI.out.2.2
        refine ⟨⟨p, rfl, ho7⟩, HG6.out.2.1.fr0 hf7, HG6.out.2.2.1.trans (hf7.mono fun _ _ f => f.elim), fun x hx => (by cases hx), fun i hi => ⟨fun h => (by have := HI.out.2.1 i h; have hi' : w6.heap.size ≤ i := hi; omega), by have hi' : w6.heap.size ≤ i := hi; omega, fun x hx => (by cases hx)⟩⟩
      have HI2 := Lib.hid (And.intro hI (show w4.heap.size ≤ w7.heap.size by have := hf7.size; have := HG6.out.2.2.2; have := I.out.2; omega))
      clear hI ho7 hf7
      go_wp2_with fail
      go_loopw [10] (fun v wr => ∃ k : Nat, k ≤ p.length ∧ v = .int .i64 k ∧ Hid (OwnJ w wr FX (fun i => w6.heap.size ≤ i) xb none (ownWs p) A7 p.length c7 ∧ w4.heap.size ≤ wr.heap.size)) (fun v _ => p.length - (intOf v).toNat)
      case atStart => exact ⟨0, Nat.zero_le _, rfl, HI2.out.1, HI2.out.2⟩
      case round =>
        obtain ⟨k, hk, rfl, I⟩ := hrel
        have hk0 : (0 : Int) ≤ (k : Int) := Int.natCast_nonneg _
        skip
        by_cases hlt : k < p.length
        · have hk1 : (k : Int) < (p.length : Int) := by omega
          obtain ⟨g, rfl, ⟨u, hu⟩, hz, hst⟩ := I.out.1.step hlt
          obtain ⟨wq, hwq⟩ : ∃ wq, wq = wr := ⟨_, rfl⟩
          subst hwq
          have HST := Lib.hid (And.intro (hst q) (show w4.heap.size ≤ (wq.setCell ⟨g, k, none⟩ (.int .u8 (q.toNat : Int))).heap.size by have := I.out.2; simpa [World.setCell] using this))
          clear hst
          go_wp2_with fail
          go_roundw
          case rel => exact ⟨k + 1, by omega, by go_num, HST.out⟩
          case measure => simp [intOf]; omega
        · obtain rfl : k = p.length := by omega
          obtain ⟨wq, hwq⟩ : ∃ wq, wq = wr := ⟨_, rfl⟩
          subst hwq
          obtain ⟨w8, hw8⟩ : ∃ w8, w8 = wq := ⟨_, rfl⟩
          subst hw8
          have hwr := tx_writes I.out.1.tx (by simp [ownWs]) (fun x hx => by obtain rfl : x = _ := (by simpa [ownWs] using hx); exact ⟨(by decide : kK.size ≤ 1000000000), (show p.length ≤ 1000000000 by omega)⟩)
          simp only [show (ownWs p).length = 1 from rfl] at hwr
          have HW := Lib.hid hwr
          clear hwr
          go_wp2_with fail
          refine HW.out.mono ?_
          rintro e9 w9 ⟨A9, c9, rfl, ho9, hf9⟩
          obtain ⟨g9, A9', c9', rfl, hc9, hg9, hr9⟩ := ownJ_write ho9
          obtain ⟨ob9, hob9⟩ : ∃ ob, w9.heap[g9]? = some ob := ⟨_, Array.getElem?_eq_getElem hg9⟩
          have hI : OwnJ w w9 FX (fun i => w8.heap.size ≤ i ∧ i ≠ g9) xb (some (g9, ob9)) (ownWs p) A9' p.length c9' := by
            have h2 := I.out.2; have h3 := HI.out.2.2
            refine ⟨⟨p, rfl, hr9⟩, I.out.1.tx.fr0 hf9, I.out.1.fr.trans (hf9.mono fun _ _ f => f.elim), fun x hx => (by cases hx; exact hob9), fun i hi => ⟨fun h => (by have := HI.out.2.1 i h; have := hi.1; omega), by have := hi.1; omega, fun x hx => (by cases hx; exact hi.2)⟩⟩
          have HI3 := Lib.hid (And.intro hI (show w4.heap.size ≤ w9.heap.size by have := hf9.size; have := I.out.2; omega))
          have HC9 := Lib.hid (fun w' (h : w'.heap[g9]? = some ob9) => hc9 w' (h.trans hob9.symm))
          clear hI hc9 hob9 hg9 hr9 ho9 hf9
          go_wp2_with fail
          go_loopw [12] (fun v wr => ∃ k : Nat, k ≤ p.length ∧ v = .int .i64 k ∧ Hid (OwnJ w wr FX (fun i => w8.heap.size ≤ i ∧ i ≠ g9) xb (some (g9, ob9)) (ownWs p) A9' p.length c9' ∧ w4.heap.size ≤ wr.heap.size)) (fun v _ => p.length - (intOf v).toNat)
          case atStart => exact ⟨0, Nat.zero_le _, rfl, HI3.out.1, HI3.out.2⟩
          case round =>
            obtain ⟨k, hk, rfl, I⟩ := hrel
            have hk0 : (0 : Int) ≤ (k : Int) := Int.natCast_nonneg _
            have c1 := (HC9.out wr (I.out.1.hold _ rfl)).2
            by_cases hlt : k < p.length
            · have hk1 : (k : Int) < (p.length : Int) := by omega
              obtain ⟨g, rfl, ⟨u, hu⟩, hz, hst⟩ := I.out.1.step hlt
              obtain ⟨wq, hwq⟩ : ∃ wq, wq = wr := ⟨_, rfl⟩
              subst hwq
              have HST := Lib.hid (And.intro (hst q) (show w4.heap.size ≤ (wq.setCell ⟨g, k, none⟩ (.int .u8 (q.toNat : Int))).heap.size by have := I.out.2; simpa [World.setCell] using this))
              clear hst
              go_wp2_with fail
              go_roundw
              case rel => exact ⟨k + 1, by omega, by go_num, HST.out⟩
              case measure => simp [intOf]; omega
            · obtain rfl : k = p.length := by omega
              obtain ⟨wq, hwq⟩ : ∃ wq, wq = wr := ⟨_, rfl⟩
              subst hwq
              go_wp2_with fail
              refine (store_new wq).mono ?_
              rintro e12 w12 ⟨sb12, rfl, hs12, hf12⟩
              have hx12 := I.out.1.tx.fr0 hf12
              have hsc := tx_scan_ok hx12 hs12 empty_small (by omega) (by simp [ownWs]) (fun x hx => by obtain rfl : x = _ := (by simpa [ownWs] using hx); (show p.length ≤ _); omega) ⟨#[]⟩ ⟨#[]⟩ 5
              rw [ownWs_scan] at hsc
              simp only [show [(kK, p)].length = 1 from rfl] at hsc
              have HS := Lib.hid (And.intro hsc (And.intro hx12 (And.intro (I.out.1.fr.trans (hf12.mono fun _ _ f => f.elim)) hf12.size)))
              clear hsc hx12 hs12 hf12
              go_wp2_with fail
              refine HS.out.1.mono ?_
              rintro e13 w13 ⟨A13, c13, rfl, ho13, hf13⟩
              obtain ⟨g13, A13', c13', rfl, hc13, hg13, hr13⟩ := ownJ_item ho13
              obtain ⟨ob13, hob13⟩ : ∃ ob, w13.heap[g13]? = some ob := ⟨_, Array.getElem?_eq_getElem hg13⟩
              have hI : OwnJ w w13 FX (fun i => w12.heap.size ≤ i ∧ i ≠ g13) xb (some (g13, ob13)) (ownWs p) A13' p.length c13' := by
                have h1 := HS.out.2.2.2; have h2 := I.out.2; have h3 := HI.out.2.2
                refine ⟨⟨p, rfl, hr13⟩, HS.out.2.1.fr0 hf13, HS.out.2.2.1.trans (hf13.mono fun _ _ f => f.elim), fun x hx => (by cases hx; exact hob13), fun i hi => ⟨fun h => (by have := HI.out.2.1 i h; have := hi.1; omega), by have := hi.1; omega, fun x hx => (by cases hx; exact hi.2)⟩⟩
              have HI4 := Lib.hid (And.intro hI (show w4.heap.size ≤ w13.heap.size by have := hf13.size; have := HS.out.2.2.2; have := I.out.2; omega))
              have HC13 := Lib.hid (fun w' (h : w'.heap[g13]? = some ob13) => hc13 w' (h.trans hob13.symm))
              clear hI hc13 hob13 hg13 hr13 ho13 hf13
              go_wp2_with fail
              go_loopw [14] (fun v wr => ∃ k : Nat, k ≤ p.length ∧ v = .int .i64 k ∧ Hid (OwnJ w wr FX (fun i => w12.heap.size ≤ i ∧ i ≠ g13) xb (some (g13, ob13)) (ownWs p) A13' p.length c13' ∧ w4.heap.size ≤ wr.heap.size)) (fun v _ => p.length - (intOf v).toNat)
              case atStart => exact ⟨0, Nat.zero_le _, rfl, HI4.out.1, HI4.out.2⟩
              case round =>
                obtain ⟨k, hk, rfl, I⟩ := hrel
                have hk0 : (0 : Int) ≤ (k : Int) := Int.natCast_nonneg _
                have c1 := (HC13.out wr (I.out.1.hold _ rfl)).2
                by_cases hlt : k < p.length
                · have hk1 : (k : Int) < (p.length : Int) := by omega
                  obtain ⟨g, rfl, ⟨u, hu⟩, hz, hst⟩ := I.out.1.step hlt
                  obtain ⟨wq, hwq⟩ : ∃ wq, wq = wr := ⟨_, rfl⟩
                  subst hwq
                  have HST := Lib.hid (And.intro (hst q) (show w4.heap.size ≤ (wq.setCell ⟨g, k, none⟩ (.int .u8 (q.toNat : Int))).heap.size by have := I.out.2; simpa [World.setCell] using this))
                  clear hst
                  go_wp2_with fail
                  go_roundw
                  case rel => exact ⟨k + 1, by omega, by go_num, HST.out⟩
                  case measure => simp [intOf]; omega
                · obtain rfl : k = p.length := by omega
                  obtain ⟨wq, hwq⟩ : ∃ wq, wq = wr := ⟨_, rfl⟩
                  subst hwq
                  go_wp2_with fail
                  refine (store_new wq).mono ?_
                  rintro e14 w14 ⟨sb14, rfl, _, hf14⟩
                  have hx14 := I.out.1.tx.fr0 hf14
                  have hg14 := tx_get_own (s := some ⟨sb14, 0, none⟩) kK hx14 (ownWs_find p) (by show p.length ≤ _; omega)
                  have HG14 := Lib.hid (And.intro hg14 (And.intro hx14 (And.intro (I.out.1.fr.trans (hf14.mono fun _ _ f => f.elim)) hf14.size)))
                  clear hx14 hg14 hf14
                  go_wp2_with fail
                  refine HG14.out.1.mono ?_
                  rintro e15 w15 ⟨A15, c15, rfl, ho15, hf15⟩
                  have hb := ref_bytes (c := c15) (d := e1) ho15.rd.2.2 (H.out.fr0 (HG14.out.2.2.1.trans (hf15.mono fun _ _ f => f.elim)))
                  rw [decide_eq_true (rfl : p = p)] at hb
                  have HB := Lib.hid (And.intro hb (HG14.out.2.2.1.trans (hf15.mono fun _ _ f => f.elim)))
                  clear hb ho15 hf15
                  go_wp2_with fail
                  refine HB.out.1.mono ?_
                  rintro e16 w16 ⟨rfl, hf16⟩
                  have HE := Lib.hid (HB.out.2.trans (hf16.mono fun _ _ f => f.elim))
                  clear hf16
                  go_wp2_with fail
                  go_ret
                  exact ⟨rfl, HE.out⟩

set_option maxHeartbeats 1000000 in
theorem law_txown {w : World} {G : Nat → Prop} {E : Option Addr} {e1 : Nat} {p : Bs} (b : Int) (hb : (Lit.int .u8 b).wf = true) (h : Rd Ty.u8 w G E p) :
    Calls Try.prog 7 #[.slice E p.length e1, .int .u8 b] w fun e w' => e = .returned (.bool true) ∧ Fr No w w' := by
  obtain ⟨q, rfl⟩ := u8_of_wf hb
  by_cases hp : p.length ≤ 40
  · exact law_txown_ok q h hp
  · have hp2 : 40 < (p.length : Int) := by omega
    have hp3 : (p.length : Int) ≤ 9223372036854775807 := by have := h.1; omega
    have hone := Lib.hid law_both
    clear h hp hb
    go_enter Try.func7, Try.ntmps7
    go_wp2_with fail
    refine (hone.out w).mono ?_
    rintro e1 w1 ⟨rfl, hf1⟩
    have HF1 := Lib.hid hf1
    clear hf1
    go_wp2_with fail
    refine (hone.out w1).mono ?_
    rintro e3 w3 ⟨rfl, hf3⟩
    have HF3 := Lib.hid (HF1.out.trans (hf3.mono fun _ _ f => f.elim))
    clear hf3
    go_wp2_with fail
    go_ret
    exact ⟨rfl, HF3.out⟩
end Go.Proofs.Ytkcppngopdiljaa
