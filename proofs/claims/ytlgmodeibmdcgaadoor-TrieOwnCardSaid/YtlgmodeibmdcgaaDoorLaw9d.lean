/- Laws of layer 9 (trie): TrieOwn. -/
import Derived.Test.YtlgmodeibmdcgaaDoorLaw9c
set_option linter.unusedVariables false
set_option linter.unusedSimpArgs false
namespace Go.Proofs.YtlgmodeibmdcgaaDoor
open Go.RowKit

theorem row_u8_eq {w : World} {F : Nat → Prop} {xs : Bs} {cs : List Value} (h : Row Ty.u8 w F xs cs) : cs = xs.map fun b => .int .u8 (b.toNat : Int) := by
  induction xs generalizing cs with
  | nil => exact h
  | cons x xs ih =>
    obtain ⟨c, d, rfl, hc, hd⟩ := h
    obtain rfl : c = _ := hc
    rw [ih hd]; rfl
theorem ow_u8 {w : World} {F : Nat → Prop} {A : Option Addr} {n c : Nat} {xs : Bs} (h : Ow Ty.u8 5 w F (.slice A n c) xs) {i : Nat} (hi : i < xs.length) :
    ∃ g, A = some ⟨g, 0, none⟩ ∧ F g ∧ g < w.heap.size ∧ (∃ u, w.cell? ⟨g, i, none⟩ = some u) ∧ w.frozen? ⟨g, i, none⟩ = false ∧ ∀ b : UInt8, Ow Ty.u8 5 (w.setCell ⟨g, i, none⟩ (.int .u8 (b.toNat : Int))) F (.slice A n c) (xs.set i b) := by
  obtain rfl := h.rd.1
  obtain ⟨cs, h1, h2, h3⟩ := h
  rcases h1.2 with ⟨h4, h5⟩ | ⟨g, cap, cur, h4, hb, hg, r⟩
  · omega
  · injection h4 with h5 h6 h7
    subst h5
    subst h7
    have hcs := row_u8_eq h2
    have hlt : i < xs.length * Ty.u8.sz := by show i < xs.length * 1; omega
    refine ⟨g, rfl, h3 g rfl, blk_lt hg, ⟨_, (h1.cellAt i hlt).trans (by rw [hcs, List.getElem?_map, List.getElem?_eq_getElem hi]; rfl)⟩, h1.frozenAt i, fun b => ?_⟩
    have hst := h1.stored i (.int .u8 (b.toNat : Int))
    refine ⟨cs.set i (.int .u8 (b.toNat : Int)), by rw [List.length_set]; exact hst.1, ?_, h3⟩
    have : cs.set i (.int .u8 (b.toNat : Int)) = (xs.set i b).map fun x => .int .u8 (x.toNat : Int) := by rw [hcs, List.map_set]
    rw [this]
    exact row_bytes _

/-- What stands in a loop that writes bytes over. -/
structure OwnT (w4 wr : World) (S : Nat → Prop) (A : Option Addr) (n c : Nat) : Prop where
  row : ∃ xs : Bs, xs.length = n ∧ Ow Ty.u8 5 wr S (.slice A n c) xs
  fr : Fr S w4 wr
theorem OwnT.step {w4 wr : World} {S : Nat → Prop} {A : Option Addr} {n c i : Nat} (I : OwnT w4 wr S A n c) (hi : i < n) :
    ∃ g, A = some ⟨g, 0, none⟩ ∧ (∃ u, wr.cell? ⟨g, i, none⟩ = some u) ∧ wr.frozen? ⟨g, i, none⟩ = false ∧ ∀ b : UInt8, OwnT w4 (wr.setCell ⟨g, i, none⟩ (.int .u8 (b.toNat : Int))) S A n c := by
  obtain ⟨⟨xs, h1, h2⟩, h3⟩ := I
  obtain ⟨g, e, hg, hlt, hc, hz, hst⟩ := ow_u8 h2 (i := i) (by omega)
  exact ⟨g, e, hc, hz, fun b => ⟨⟨xs.set i b, by rw [List.length_set]; exact h1, hst b⟩, h3.set _ (.inl hg) _⟩⟩
def kK : ByteArray := ⟨#[107]⟩
theorem u8_of_wf {n : Int} (hw : (Lit.int .u8 n).wf = true) : ∃ q : UInt8, n = (q.toNat : Int) := by
  have h1 : 0 ≤ n ∧ n ≤ 255 := by
    unfold Lit.wf at hw
    simp [IntKind.wrap, IntKind.signed, IntKind.bits] at hw
    have a := hw.1
    have b := hw.2
    simp [IntKind.min, IntKind.max, IntKind.signed, IntKind.bits] at a b
    omega
  refine ⟨UInt8.ofNat n.toNat, ?_⟩
  rw [UInt8.toNat_ofNat']
  omega

set_option maxHeartbeats 4000000 in
set_option maxRecDepth 100000 in
theorem law_own_ok {w : World} {G : Nat → Prop} {E : Option Addr} {e1 : Nat} {p : Bs} (q : UInt8) (h : Rd Ty.u8 w G E p) (hp : p.length ≤ 40) (hk : KAt w) :
    Calls Tryd.prog 5 #[.slice E p.length e1, .int .u8 (q.toNat : Int)] w fun e w' => e = .returned (.bool true) ∧ Fr No w w' := by
  have hpi : (p.length : Int) ≤ 40 := by omega
  have H := Lib.hid (And.intro h.here (And.intro hp hk))
  have hlt := hk.lt
  have HK0 := Lib.hid hlt
  clear h hp hk hlt
  go_enter Tryd.func5, Tryd.ntmps5
  go_wp2_with fail
  refine (back_ok H.out.2.2).mono ?_
  rintro e1 w1 ⟨rfl, hf1⟩
  have hj := ref_join (w := w1) (c := e1) (d := 0) (H.out.1.fr0 hf1) (Rd.nil (t := Ty.u8) (w := w1) (F := fun i => G i ∧ i < w.heap.size) (A := none)) (by have := H.out.2.1; simp; omega)
  simp only [List.append_nil, List.length_nil] at hj
  have HF1 := Lib.hid (And.intro hf1 hj)
  clear hf1 hj
  go_wp2_with fail
  refine HF1.out.2.mono ?_
  rintro e3 w3 ⟨A3, c3, rfl, ho3, hf3⟩
  have hf03 := HF1.out.1.next hf3 (fun _ _ f => f.elim)
  have hput := Put_ok (c := c3) (t := .nil) (v := .pointer none) (B := w3.heap.size) kK rfl ho3.rd.2.2 (by decide) (by have := H.out.2.1; omega) (H.out.2.2.fr0 hf03) (Nat.le_refl _) trivial (Nat.zero_le _) (Nat.zero_le _) trivial (fun k hk => by cases hk)
  have H3 := Lib.hid (And.intro hput (And.intro (ho3.mono fun i hi hl => (⟨hi, hl⟩ : w1.heap.size ≤ i ∧ i < w3.heap.size)) (And.intro hf03 hf3.size)))
  clear hput ho3 hf3 hf03
  rw [show kK = (⟨#[107]⟩ : ByteArray) from rfl] at H3
  go_wp2_with fail
  refine H3.out.1.mono ?_
  rintro e4 w4 ⟨u, rfl, hu, hf4⟩
  have hu' : NodeAt w3.heap.size w4 u (.leaf kK p) := hu
  obtain ⟨S, hS⟩ : ∃ S : Nat → Prop, (fun i => (w.heap.size ≤ i ∧ i < w3.heap.size) ∨ w4.heap.size ≤ i) = S := ⟨_, rfl⟩
  have hSd : ∀ i, S i → (w.heap.size ≤ i ∧ i < w3.heap.size) ∨ w4.heap.size ≤ i := by rw [← hS]; exact fun i h => h
  have hSi : ∀ i, ((w.heap.size ≤ i ∧ i < w3.heap.size) ∨ w4.heap.size ≤ i) → S i := by rw [← hS]; exact fun i h => h
  have hz := H3.out.2.2.1.size
  have hz4 := hf4.size
  have hnode : ∀ wr, Fr S w4 wr → NodeAt w3.heap.size wr u (.leaf kK p) := fun wr f => hu'.stab fun i hB hl => f.block i hl (fun hs => by rcases hSd i hs with h | h <;> omega)
  have hall : ∀ wr, Fr S w4 wr → Fr No w wr ∧ KAt wr := fun wr f => by
    have h1 := (H3.out.2.2.1.next hf4 (fun _ _ f => f.elim)).next f (fun i hi hs => by rcases hSd i hs with h | h <;> omega)
    exact ⟨h1, H.out.2.2.fr0 h1⟩
  have hI : OwnT w4 w4 S A3 p.length c3 := ⟨⟨p, rfl, (H3.out.2.1.fr0 hf4).mono fun i hi _ => hSi i (.inl ⟨by have := HF1.out.1.size; omega, hi.2⟩)⟩, Fr.refl _ _⟩
  have HN := Lib.hid (And.intro hnode (And.intro hall (And.intro hI hSi)))
  clear hnode hall hI hS hSd hSi hz hz4 hf4 hu hu'
  go_wp2_with fail
  go_loopw [7] (fun v wr => ∃ k : Nat, k ≤ p.length ∧ v = .int .i64 k ∧ Hid (OwnT w4 wr S A3 p.length c3)) (fun v _ => p.length - (intOf v).toNat)
  case atStart => exact ⟨0, Nat.zero_le _, rfl, HN.out.2.2.1⟩
  case round =>
    obtain ⟨k, hk, rfl, I⟩ := hrel
    have hk0 : (0 : Int) ≤ (k : Int) := Int.natCast_nonneg _
    obtain ⟨wq, hwq⟩ : ∃ wq, wq = wr := ⟨_, rfl⟩
    subst hwq
    by_cases hlt : k < p.length
    · have hk1 : (k : Int) < (p.length : Int) := by omega
      obtain ⟨g, rfl, ⟨x, hx⟩, hz, hst⟩ := I.out.step hlt
      have HST := Lib.hid (hst q)
      clear hst
      go_wp2_with fail
      go_roundw
      case rel => exact ⟨k + 1, by omega, by go_num, HST.out⟩
      case measure => simp [intOf]; omega
    · obtain rfl : k = p.length := by omega
      have hfr := I.out.fr
      obtain ⟨hw0, hkr⟩ := HN.out.2.1 _ hfr
      have hget := get_ok kK (HN.out.1 _ hfr) (by decide) hkr (Nat.zero_le _) (fun r hr => by
        have : r = p := by
          have h1 : (if kK = kK then some p else none) = some r := hr
          rw [if_pos rfl] at h1
          exact (Option.some.inj h1).symm
        rw [this]; have := H.out.2.1; omega)
      rw [show (Tr.leaf kK p).get hbit kK 0 = some p from if_pos rfl] at hget
      have HG := Lib.hid (And.intro hget hfr)
      clear hget hfr hw0 hkr
      rw [show kK = (⟨#[107]⟩ : ByteArray) from rfl] at HG
      go_wp2_with fail
      refine HG.out.1.mono ?_
      rintro e6 w6 ⟨A6, c6, rfl, ho6, hf6⟩
      have hI2 : OwnT w4 w6 S A6 p.length c6 := ⟨⟨p, rfl, ho6.mono fun i hi _ => HN.out.2.2.2 i (.inr (Nat.le_trans HG.out.2.size hi))⟩, HG.out.2.next hf6 (fun _ _ f => f.elim)⟩
      have HI2 := Lib.hid hI2
      clear hI2 ho6 hf6
      go_wp2_with fail
      go_loopw [10] (fun v wr => ∃ k : Nat, k ≤ p.length ∧ v = .int .i64 k ∧ Hid (OwnT w4 wr S A6 p.length c6)) (fun v _ => p.length - (intOf v).toNat)
      case atStart => exact ⟨0, Nat.zero_le _, rfl, HI2.out⟩
      case round =>
        obtain ⟨k, hk, rfl, I⟩ := hrel
        have hk0 : (0 : Int) ≤ (k : Int) := Int.natCast_nonneg _
        obtain ⟨wq, hwq⟩ : ∃ wq, wq = wr := ⟨_, rfl⟩
        subst hwq
        by_cases hlt : k < p.length
        · have hk1 : (k : Int) < (p.length : Int) := by omega
          obtain ⟨g, rfl, ⟨x, hx⟩, hz, hst⟩ := I.out.step hlt
          have HST := Lib.hid (hst q)
          clear hst
          go_wp2_with fail
          go_roundw
          case rel => exact ⟨k + 1, by omega, by go_num, HST.out⟩
          case measure => simp [intOf]; omega
        · obtain rfl : k = p.length := by omega
          have hfr := I.out.fr
          obtain ⟨hw0, hkr⟩ := HN.out.2.1 _ hfr
          have hlf := leafm_ok (HN.out.1 _ hfr) (by have := H.out.2.1; omega)
          have HG2 := Lib.hid (And.intro hlf hfr)
          clear hlf hfr hw0 hkr
          go_wp2_with fail
          refine HG2.out.1.mono ?_
          rintro e8 w8 ⟨A8, c8, rfl, ho8, hf8⟩
          have hI3 : OwnT w4 w8 S A8 p.length c8 := ⟨⟨p, rfl, ho8.mono fun i hi _ => HN.out.2.2.2 i (.inr (Nat.le_trans HG2.out.2.size hi))⟩, HG2.out.2.next hf8 (fun _ _ f => f.elim)⟩
          have HI3 := Lib.hid hI3
          clear hI3 ho8 hf8
          go_wp2_with fail
          go_loopw [14] (fun v wr => ∃ k : Nat, k ≤ p.length ∧ v = .int .i64 k ∧ Hid (OwnT w4 wr S A8 p.length c8)) (fun v _ => p.length - (intOf v).toNat)
          case atStart => exact ⟨0, Nat.zero_le _, rfl, HI3.out⟩
          case round =>
            obtain ⟨k, hk, rfl, I⟩ := hrel
            have hk0 : (0 : Int) ≤ (k : Int) := Int.natCast_nonneg _
            obtain ⟨wq, hwq⟩ : ∃ wq, wq = wr := ⟨_, rfl⟩
            subst hwq
            by_cases hlt : k < p.length
            · have hk1 : (k : Int) < (p.length : Int) := by omega
              obtain ⟨g, rfl, ⟨x, hx⟩, hz, hst⟩ := I.out.step hlt
              have HST := Lib.hid (hst q)
              clear hst
              go_wp2_with fail
              go_roundw
              case rel => exact ⟨k + 1, by omega, by go_num, HST.out⟩
              case measure => simp [intOf]; omega
            · obtain rfl : k = p.length := by omega
              have hfr := I.out.fr
              obtain ⟨hw0, hkr⟩ := HN.out.2.1 _ hfr
              have hget := get_ok kK (HN.out.1 _ hfr) (by decide) hkr (Nat.zero_le _) (fun r hr => by
                have : r = p := by
                  have h1 : (if kK = kK then some p else none) = some r := hr
                  rw [if_pos rfl] at h1
                  exact (Option.some.inj h1).symm
                rw [this]; have := H.out.2.1; omega)
              rw [show (Tr.leaf kK p).get hbit kK 0 = some p from if_pos rfl] at hget
              have HG3 := Lib.hid (And.intro hget hfr)
              clear hget hfr hw0 hkr
              rw [show kK = (⟨#[107]⟩ : ByteArray) from rfl] at HG3
              go_wp2_with fail
              refine HG3.out.1.mono ?_
              rintro e10 w10 ⟨A10, c10, rfl, ho10, hf10⟩
              have hfr10 := HG3.out.2.next hf10 (fun _ _ f => f.elim)
              obtain ⟨hw10, hk10⟩ := HN.out.2.1 _ hfr10
              have hby := ref_bytes (c := c10) (d := e1) ho10.rd.2.2 (H.out.1.fr0 hw10)
              rw [decide_eq_true rfl] at hby
              have HB := Lib.hid (And.intro hby (And.intro hfr10 hw10))
              clear hby hfr10 hw10 hk10 ho10 hf10
              go_wp2_with fail
              refine HB.out.1.mono ?_
              rintro e11 w11 ⟨rfl, hf11⟩
              have hfr11 := HB.out.2.1.next hf11 (fun _ _ f => f.elim)
              obtain ⟨hw11, hk11⟩ := HN.out.2.1 _ hfr11
              have hdg := dig_ok (HN.out.1 _ hfr11) hk11
              rw [show digT (.leaf kK p) = sha (leafB kK p) from rfl] at hdg
              obtain ⟨L, hL⟩ : ∃ L, leafB kK p = L := ⟨_, rfl⟩
              rw [hL] at hdg
              have HD := Lib.hid (And.intro hdg (And.intro hw11 hL))
              clear hdg hfr11 hw11 hk11 hf11 hL
              go_wp2_with fail
              refine HD.out.1.mono ?_
              rintro e12 w12 ⟨rfl, hf12⟩
              have hw12 := HD.out.2.1.next hf12 (fun _ _ f => f.elim)
              have hlb := ref_leafb (c := e1) kK (H.out.1.fr0 hw12) (by decide) (by have := H.out.2.1; omega)
              rw [HD.out.2.2] at hlb
              have HL := Lib.hid (And.intro hlb hw12)
              clear hlb hw12 hf12
              rw [show kK = (⟨#[107]⟩ : ByteArray) from rfl] at HL
              go_wp2_with fail
              refine HL.out.1.mono ?_
              rintro e13 w13 ⟨A13, c13, rfl, ho13, hf13⟩
              have hw13 := HL.out.2.next hf13 (fun _ _ f => f.elim)
              have hsm := ref_sum (c := c13) ho13.rd.2.2 (by rw [← HD.out.2.2]; unfold leafB; rw [List.length_append, List.length_append, List.length_append, keyB_len, beN_len]; have := H.out.2.1; simp; have : kK.size = 1 := rfl; omega)
              have HM := Lib.hid (And.intro hsm hw13)
              clear hsm hw13 ho13 hf13
              go_wp2_with fail
              refine HM.out.1.mono ?_
              rintro e14 w14 ⟨rfl, hf14⟩
              have HZ := Lib.hid (HM.out.2.next hf14 (fun _ _ f => f.elim))
              clear hf14
              go_wp2_with fail
              go_ret
              exact ⟨rfl, HZ.out⟩
set_option maxHeartbeats 2000000 in
set_option maxRecDepth 100000 in
theorem law_own {w : World} {G : Nat → Prop} {E : Option Addr} {e1 : Nat} {p : Bs} (b : Int) (hb : (Lit.int .u8 b).wf = true) (h : Rd Ty.u8 w G E p) (hk : KAt w) :
    Calls Tryd.prog 5 #[.slice E p.length e1, .int .u8 b] w fun e w' => e = .returned (.bool true) ∧ Fr No w w' := by
  obtain ⟨q, rfl⟩ := u8_of_wf hb
  by_cases hp : p.length ≤ 40
  · exact law_own_ok q h hp hk
  · have hpi : (40 : Int) < (p.length : Int) := by omega
    have hl63 := h.1
    have HB := Lib.hid fun (w1 : World) (f : Fr No w w1) => back_ok (hk.fr0 f)
    clear h hp hb hk
    go_enter Tryd.func5, Tryd.ntmps5
    go_wp2_with fail
    refine (HB.out _ (Fr.refl _ _)).mono ?_
    rintro e1 w1 ⟨rfl, hf1⟩
    have HF1 := Lib.hid hf1
    clear hf1
    go_wp2_with fail
    refine (HB.out _ HF1.out).mono ?_
    rintro e2 w2 ⟨rfl, hf2⟩
    have HF2 := Lib.hid (HF1.out.next hf2 (fun _ _ f => f.elim))
    clear hf2
    go_wp2_with fail
    go_ret
    exact ⟨rfl, HF2.out⟩
end Go.Proofs.YtlgmodeibmdcgaaDoor
