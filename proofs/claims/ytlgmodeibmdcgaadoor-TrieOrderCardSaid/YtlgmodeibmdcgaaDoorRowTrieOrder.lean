/- TrieOrder: its law's texts (Law9p, Law9q, Law9r) laid into the row. -/
import Derived.Test.YtlgmodeibmdcgaaDoorLaw9i
import Derived.Test.YtlgmodeibmdcgaaDoorGoodK
import Derived.Test.YtlgmodeibmdcgaaDoorLaid
import Derived.Test.YtlgmodeibmdcgaaDoorTie
import Derived.Test.YtlgmodeibmdcgaaDoorCards
import Derived.Test.YtlgmodeibmdcgaaDoorOpen9
import Derived.WalkKit
import Derived.ProofKit
import Derived.OpenShut
import Derived.ShutString
import Derived.ChangeOld
import Derived.Below
import Derived.Carry
import Derived.SizedLaws
import Derived.SevenTiedAt
import Derived.LaidMore
/- Laws of layer 9 (trie): TrieOrder: plain, and an item cut out of a list. -/
set_option linter.unusedVariables false
set_option linter.unusedSimpArgs false
namespace Go.Proofs.YtlgmodeibmdcgaaDoor
open Go.RowKit

/-- The items that are no longer left. -/
def gone (m left : List Itm) : List Itm := m.filter fun x => !(left.any fun y => decide (y.1 = x.1))
theorem gone_nil (m : List Itm) : gone m [] = m := List.filter_eq_self.2 fun _ _ => rfl
theorem mem_gone {m left : List Itm} {x : Itm} : x ∈ gone m left ↔ x ∈ m ∧ ∀ y ∈ left, y.1 ≠ x.1 := by
  unfold gone
  rw [List.mem_filter]
  simp only [Bool.not_eq_eq_eq_not, Bool.not_true, List.any_eq_false, decide_eq_true_eq]
theorem gone_self (m : List Itm) : gone m m = [] := List.eq_nil_iff_forall_not_mem.2 fun x hx => (mem_gone.1 hx).2 x (mem_gone.1 hx).1 rfl
theorem RiseI.keys_ne {m : List Itm} (r : RiseI m) : m.Pairwise fun a b => a.1 ≠ b.1 := by
  have h : (m.map (·.1)).Pairwise (fun a b => kl a b = true) := r
  rw [List.pairwise_map] at h
  exact h.imp fun hab => kl_ne hab
theorem mem_erase {left : List Itm} (h : left.Pairwise fun a b => a.1 ≠ b.1) {k : Nat} (hk : k < left.length) {y : Itm} : y ∈ left.eraseIdx k ↔ y ∈ left ∧ y.1 ≠ left[k].1 := by
  induction left generalizing k with
  | nil => simp at hk
  | cons z left ih =>
    rw [List.pairwise_cons] at h
    cases k with
    | zero =>
      simp only [List.eraseIdx_zero, List.tail_cons, List.getElem_cons_zero, List.mem_cons]
      exact ⟨fun hy => ⟨.inr hy, fun e => h.1 y hy e.symm⟩, fun ⟨hy, hn⟩ => hy.resolve_left fun e => hn (by rw [e])⟩
    | succ k =>
      have hk' : k < left.length := by simpa using hk
      simp only [List.eraseIdx_cons_succ, List.getElem_cons_succ, List.mem_cons, ih h.2 hk']
      refine ⟨fun hy => ?_, fun ⟨hy, hn⟩ => hy.imp_right fun hy => ⟨hy, hn⟩⟩
      rcases hy with e | ⟨hy, hn⟩
      · exact ⟨.inl e, by rw [e]; exact h.1 _ (List.getElem_mem hk')⟩
      · exact ⟨.inr hy, hn⟩
theorem gone_put {m left : List Itm} (r : RiseI m) (s : left.Sublist m) {k : Nat} (hk : k < left.length) : putL (gone m left) left[k] = gone m (left.eraseIdx k) := by
  have hp := List.Pairwise.sublist s r.keys_ne
  have hrm : ∀ l, RiseI (gone m l) := fun l => List.Pairwise.sublist (List.filter_sublist.map _) r
  refine RiseI.ext (putL_rise (hrm _) _) (hrm _) fun y => ?_
  rw [mem_putL_iff (hrm _), mem_gone, mem_gone]
  have hx := List.getElem_mem hk
  constructor
  · rintro (rfl | ⟨⟨h1, h2⟩, h3⟩)
    · exact ⟨s.subset hx, fun y hy => ((mem_erase hp hk).1 hy).2⟩
    · exact ⟨h1, fun z hz => h2 z ((mem_erase hp hk).1 hz).1⟩
  · rintro ⟨h1, h2⟩
    by_cases he : y.1 = left[k].1
    · refine .inl ?_
      obtain ⟨i, hi, e1⟩ := List.getElem_of_mem h1
      obtain ⟨j, hj, e2⟩ := List.getElem_of_mem (s.subset hx)
      have hpw := List.pairwise_iff_getElem.1 r.keys_ne
      rcases Nat.lt_trichotomy i j with hij | hij | hij
      · exact absurd (by rw [e1, e2]; exact he) (hpw i j hi hj hij)
      · subst hij; rw [← e1, ← e2]
      · exact absurd (by rw [e1, e2]; exact he.symm) (hpw j i hj hi hij)
    · refine .inr ⟨⟨h1, fun z hz => ?_⟩, he⟩
      intro e
      by_cases hzk : z.1 = left[k].1
      · exact he (e.symm.trans hzk)
      · exact h2 z ((mem_erase hp hk).2 ⟨hz, hzk⟩) e
theorem gone_good {m left : List Itm} (g : GoodM m) : GoodM (gone m left) := g.sub List.filter_sublist
theorem gone_len {m left : List Itm} : (gone m left).length ≤ m.length := List.length_filter_le _ _

theorem itm_row {B : Nat} {w : World} {F : Nat → Prop} {A : Option Addr} {m : List Itm} (h : Rd tItm w F A m) : ∃ cs, Row tItm w F m cs ∧ At w A cs := h.at

/-- append at a step of a region that draws its order, by what is known of its run. -/
theorem append_some_step {P : Program} {o : Oper} {a : Act} {Q : Exit → Act → World → Prop} {ops : Array Oper} {W : World} {K : Act → World → Prop} {E : Prop} {n : Nat} {R : Option Addr → Nat → World → Prop} (s x : Operand) (ty ty' : TypeId) (hgd : o.guard = none)
    (ho : o.op = .call { callee := .builtin .append, args := #[s, x], argTypes := #[ty, ty'] }) {vs vx : Value} (hs : a.eval s = vs) (hx : a.eval x = vx)
    (hr : ∃ A1 c1 w1, (Builtin.append_ #[ty, ty'] o.type #[vs, vx]).run P W = .ok (.slice A1 n c1) w1 ∧ R A1 c1 w1) (h : ∀ A1 c1 w1, R A1 c1 w1 → K (a.put o.dst (.slice A1 n c1)) w1) :
    if Region.wanted o (yielded ops a.tmps) = true then Oper.wp P o a W K Q else E := by
  have hw : Region.wanted o (yielded ops a.tmps) = true := by simp [Region.wanted, hgd]
  rw [if_pos hw]
  obtain ⟨A1, c1, w1, hr, hR⟩ := hr
  exact wp_append_run s x ty ty' ho hs hx hr (h A1 c1 w1 hR)
/-- All of it, into a new array. -/
theorem its_copy {B : Nat} {w : World} {A : Option Addr} {c : Nat} {m : List Itm} (h : RdI B w A m) (hm : m.length ≤ 1000) (hB : B ≤ w.heap.size) :
    ∃ A1 c1 w1, (Builtin.append_ #[26, 26] 26 #[.slice none 0 0, .slice A m.length c]).run Tryd.prog w = .ok (.slice A1 m.length c1) w1 ∧ Its B w.heap.size w1 (.slice A1 m.length c1) m ∧ Fr No w w1 := by
  obtain ⟨cs, hR, hA⟩ := h.at
  obtain ⟨A1, c1, w1, hrun, hO, hg, hat⟩ := run_ow_append (P := Tryd.prog) (ty := 26) (ty' := 26) tItm (Ow.nil (F := fun i => B ≤ i)) (.agg #[.string ⟨#[]⟩, .slice none 0 0]) 40 Tryd.underlying26 info_itm rfl (by decide) (by decide) c (ys := m) (hR.mono fun i hi _ => ⟨hi, by simp [Value.ownBlock]⟩) hA (by simp; omega)
  simp only [List.length_nil, Nat.zero_add, List.nil_append] at hrun hO hat
  refine ⟨A1, c1, w1, hrun, ⟨hO.mono fun i hi _ => ?_, fun k hk => ?_⟩, (Fr.refl No w).grown hg fun k hk => by simp [Value.ownBlock] at hk⟩
  · rcases hi with hi | hi <;> omega
  · rcases hat with h1 | h1
    · rw [h1] at hk; simp [Value.ownBlock] at hk
    · have := h1.symm.trans hk; injection this with this; omega
/-- Further items, behind one's own; the own row lies at N or behind, what is added does not. -/
theorem its_onto {B N : Nat} {w : World} {v : Value} {m l : List Itm} {A : Option Addr} {c : Nat} (h : Its B N w v m) (k : Rd tItm w (fun i => B ≤ i ∧ i < N) A l) (hm : m.length + l.length ≤ 1000) (hB : B ≤ w.heap.size) (hN : N ≤ w.heap.size) :
    ∃ A1 c1 w1, (Builtin.append_ #[26, 26] 26 #[v, .slice A l.length c]).run Tryd.prog w = .ok (.slice A1 (m.length + l.length) c1) w1 ∧ Its B N w1 (.slice A1 (m.length + l.length) c1) (m ++ l) ∧ Fr (fun i => N ≤ i) w w1 := by
  obtain ⟨cs, hR, hA⟩ := k.at
  obtain ⟨A1, c1, w1, hrun, hO, hg, hat⟩ := run_ow_append (P := Tryd.prog) (ty := 26) (ty' := 26) tItm h.1 (.agg #[.string ⟨#[]⟩, .slice none 0 0]) 40 Tryd.underlying26 info_itm rfl (by decide) (by decide) c (ys := l) (hR.mono fun i hi _ => ⟨hi.1, fun e => by have := h.2 i e; omega⟩) hA (by omega)
  refine ⟨A1, c1, w1, hrun, ⟨hO.mono fun i hi _ => ?_, fun k hk => ?_⟩, (Fr.refl _ w).grown hg fun k hk => .inl (h.2 k hk)⟩
  · rcases hi with hi | hi <;> omega
  · rcases hat with h1 | h1
    · exact h.2 k (h1 ▸ hk)
    · have := h1.symm.trans hk; injection this with this; omega
/-- The two cuts about an item, and their joining. -/
theorem its_cut {B : Nat} {w : World} {A : Option Addr} {c : Nat} {m : List Itm} (h : RdI B w A m) (hc : m.length ≤ c) {k : Nat} (hk : k < m.length) (hm : m.length ≤ 1000) (hB : B ≤ w.heap.size) :
    ∃ Al Ah, (∀ W : World, (Instr.slice 26 (.slice A m.length c) none (some (.int .i64 (k : Int))) none).run Tryd.prog W = .ok (.slice Al k c) W) ∧
      (∀ W : World, (Instr.slice 26 (.slice A m.length c) (some (.int .i64 ((k : Int) + 1))) none none).run Tryd.prog W = .ok (.slice Ah (m.length - (k + 1)) (c - (k + 1))) W) ∧
      ∀ W, Fr No w W → ∃ A1 c1 w1, (Builtin.append_ #[26, 26] 26 #[.slice none 0 0, .slice Al k c]).run Tryd.prog W = .ok (.slice A1 k c1) w1 ∧ Fr No w w1 ∧
        ∀ V, Fr No w1 V → ∃ A2 c2 w2, (Builtin.append_ #[26, 26] 26 #[.slice A1 k c1, .slice Ah (m.length - (k + 1)) (c - (k + 1))]).run Tryd.prog V = .ok (.slice A2 (m.length - 1) c2) w2 ∧
          RdI B w2 A2 (m.eraseIdx k) ∧ m.length - 1 ≤ c2 ∧ Fr No w w2 := by
  have hinf : (Tryd.prog.info? 32).map (·.size) = some 2 := by
    obtain ⟨i0, h1, h2⟩ := Option.map_eq_some_iff.1 info_itm
    rw [h1]; simp only [Prod.mk.injEq] at h2; simp only [Option.map_some]; rw [h2.2.1]
  obtain ⟨Al, hl, hla⟩ := cut_hi (P := Tryd.prog) tItm 26 32 .i64 Tryd.underlying26 hinf A m.length c k (Nat.le_of_lt hk) hc
  obtain ⟨Ah, hh, hha⟩ := cut_lo (P := Tryd.prog) tItm 26 32 .i64 Tryd.underlying26 hinf A m.length c (k + 1) hk hc
  refine ⟨Al, Ah, hl, fun W => ?_, fun W fW => ?_⟩
  · have := hh W; rwa [Int.natCast_add, Int.natCast_one] at this
  · have r1 : RdI B W Al (m.take k) := hla W _ m rfl (h.fr0 fW)
    have e1 : (m.take k).length = k := by rw [List.length_take]; omega
    have e2 : (m.drop (k + 1)).length = m.length - (k + 1) := List.length_drop
    obtain ⟨A1, c1, w1, hr1, ho1, hf1⟩ := its_copy (c := c) r1 (by omega) (Nat.le_trans hB fW.size)
    rw [e1] at hr1 ho1
    refine ⟨A1, c1, w1, hr1, fW.next hf1 (fun _ _ f => f.elim), fun V fV => ?_⟩
    have fwV : Fr No W V := hf1.next fV (fun _ _ f => f.elim)
    have hlow : Rd tItm w (fun i => B ≤ i ∧ i < W.heap.size) A m := h.mono fun i a b => ⟨a, Nat.lt_of_lt_of_le b fW.size⟩
    have r2 : Rd tItm V (fun i => B ≤ i ∧ i < W.heap.size) Ah (m.drop (k + 1)) := hha V _ m rfl ((hlow.fr0 fW).fr0 fwV)
    obtain ⟨A2, c2, w2, hr2, ho2, hf2⟩ := its_onto (c := c - (k + 1)) (ho1.fr fV) r2 (by omega) (Nat.le_trans hB (Nat.le_trans fW.size fwV.size)) fwV.size
    rw [e1, e2] at hr2 ho2
    rw [show k + (m.length - (k + 1)) = m.length - 1 by omega] at hr2 ho2
    have e3 : m.take k ++ m.drop (k + 1) = m.eraseIdx k := (List.eraseIdx_eq_take_drop_succ m k).symm
    rw [e3] at ho2
    obtain ⟨_, hcc, hrd⟩ := ho2.1.rd
    refine ⟨A2, c2, w2, hr2, hrd, hcc, fW.next (fwV.next hf2 ?_) (fun _ _ f => f.elim)⟩
    intro i hi hn
    omega
end Go.Proofs.YtlgmodeibmdcgaaDoor
/- Laws of layer 9 (trie): TrieOrder. -/
set_option linter.unusedVariables false
set_option linter.unusedSimpArgs false
namespace Go.Proofs.YtlgmodeibmdcgaaDoor
open Go.RowKit

set_option maxHeartbeats 8000000 in
set_option maxRecDepth 100000 in
theorem law_order_ok {w : World} {F G : Nat → Prop} {D E : Option Addr} {d e1 : Nat} {l : List Act9} {turn : List UInt8} (h : Rd tAct9 w F D l) (h2 : Rd Ty.u8 w G E turn) (hl : smallB l = true) (hk : KAt w) :
    Calls Tryd.prog 6 #[.slice D l.length d, .slice E turn.length e1] w fun e w' => e = .returned (.bool true) ∧ Fr No w w' := by
  obtain ⟨hrow, hlen⟩ := smallB_all hl
  obtain ⟨gm, gl⟩ := itemsOf_good hrow hlen
  have hsm := fun (w1 : World) (f : Fr No w w1) => small_ok (c := d) (h.fr0 f)
  simp only [hl] at hsm
  have hmd := fun (w1 : World) (f : Fr No w w1) => made_ok (B := w.heap.size) (d := d) (h.fr0 f) hl (hk.fr0 f) f.size
  obtain ⟨m, hm⟩ : ∃ m, itemsOf l = m := ⟨_, rfl⟩
  simp only [hm] at hmd gm gl
  have hml : m.length ≤ 40 := by omega
  have hmli : (m.length : Int) ≤ 40 := by omega
  have htl := h2.1
  have htli : (turn.length : Int) ≤ 9223372036854775807 := by omega
  have H := Lib.hid (And.intro hsm (And.intro hmd (And.intro hk (And.intro gm (And.intro hml (And.intro h2 htl))))))
  have HB := Lib.hid (back_ok hk)
  clear hsm hmd hk gm gl hml h2 hm hrow hlen h hl htl
  go_enter Tryd.func6, Tryd.ntmps6
  go_wp2_with fail
  refine HB.out.mono ?_
  rintro e w1 ⟨rfl, hf1⟩
  have H1 := Lib.hid hf1
  clear hf1
  go_wp2_with fail
  refine (H.out.1 _ H1.out).mono ?_
  rintro e w' ⟨rfl, rfl⟩
  go_wp2_with fail
  refine (H.out.2.1 _ H1.out).mono ?_
  rintro e w2 ⟨vn, Am, cm, rfl, hM, hf2⟩
  obtain ⟨A0, c0, w0, hrun0, hI0, hf0⟩ := its_copy (c := cm) hM.its (by have := H.out.2.2.2.2.1; omega) (Nat.le_trans H1.out.size hf2.size)
  have H2 := Lib.hid (And.intro (hM.fr0 hf0) (And.intro hI0.1.rd (H1.out.next (hf2.next hf0 (fun _ _ f => f.elim)) (fun _ _ f => f.elim))))
  clear hM hf2 hI0 hf0
  go_wp2_with (at_builtin; refine wpList_plain rfl fun K hK => wp_append_run _ _ _ _ rfl rfl rfl hrun0 (hK _ _ ?_))
  clear hrun0
  go_wp2_with fail
  go_loopw [7, 8, 9] (fun o s iv wr => ∃ (A : Option Addr) (n c j : Nat), s = .slice A n c ∧ iv = .int .i64 (j : Int) ∧ j + n = m.length ∧ Hid (∃ left : List Itm, n = left.length ∧ left.Sublist m ∧ NodeAt w.heap.size wr o (treeOf (gone m left)) ∧ RdI w.heap.size wr A left ∧ n ≤ c ∧ Fr No w0 wr)) (fun _ _ iv _ => m.length - (intOf iv).toNat)
  case atStart => exact ⟨A0, m.length, c0, 0, rfl, rfl, by omega, m, rfl, List.Sublist.refl _, by rw [gone_self]; rfl, H2.out.2.1.2.2, H2.out.2.1.2.1, Fr.refl _ _⟩
  case round =>
    obtain ⟨A, n, c, j, rfl, rfl, hjn, I⟩ := hrel
    obtain ⟨left, rfl, hsub, hnode, hrd, hcap, hfr⟩ := I.out
    clear I
    have hj0 : (0 : Int) ≤ (j : Int) := Int.natCast_nonneg _
    have hjm : (j : Int) ≤ 40 := by omega
    have hl0 : (0 : Int) ≤ (left.length : Int) := Int.natCast_nonneg _
    have hl40 : (left.length : Int) ≤ 40 := by omega
    by_cases hz : 0 < left.length
    · have hzi : (0 : Int) < (left.length : Int) := by omega
      have hz' : ((left.length : Int) == 0) = false := beq_eq_false_iff_ne.2 (by omega)
      have HS := Lib.hid (And.intro hsub (And.intro hnode (And.intro hrd (And.intro hcap hfr))))
      have hfw := H2.out.2.2.next hfr (fun _ _ f => f.elim)
      have h2r := H.out.2.2.2.2.2.1.fr0 hfw
      clear hsub hnode hrd hcap hfr
      go_upto_if 34 with fail
      go_cut [10] (fun s10 wx => ∃ k : Nat, k < left.length ∧ s10 = .int .i64 (k : Int) ∧ wx = wr)
      case first =>
        by_cases hi : j < turn.length
        · obtain ⟨ad, rfl, hc⟩ := u8_at h2r hi
          obtain ⟨b, hb⟩ : ∃ b, turn[j] = b := ⟨_, rfl⟩
          rw [hb] at hc
          have hb255 := b.toNat_lt
          go_wp2_with fail
          go_meet
          case rel => exact ⟨b.toNat % left.length, Nat.mod_lt _ hz, rfl, rfl⟩
        · go_wp2_with fail
          go_meet
          case rel => exact ⟨0, hz, rfl, rfl⟩
      case rest =>
        obtain ⟨k, hk, rfl, rfl⟩ := hcut
        obtain ⟨wp, hwp⟩ : ∃ wp, wp = wc := ⟨_, rfl⟩
        subst hwp
        obtain ⟨hsub, hnode, hrd, hcap, hfr⟩ := HS.out
        have hk0 : (0 : Int) ≤ (k : Int) := Int.natCast_nonneg _
        have hki : (k : Int) < (left.length : Int) := by omega
        have hwz : IntKind.i64.wrap ((k : Int) + 1) = (k : Int) + 1 := IntWalk.i64_in _ (by omega)
        obtain ⟨ad, R, cx, rfl, x0, x1, _, hx⟩ := itm_at hrd hk
        have hmem := hsub.subset (List.getElem_mem hk)
        have hkey := H.out.2.2.2.1.key left[k] hmem
        have hxr := H.out.2.2.2.1.row left[k] hmem
        have hput := fun (w1 : World) (f : Fr No wp w1) => good_put (c := cx) (gone_good (left := left) H.out.2.2.2.1) left[k].1 (hnode.fr0 f) (hx.fr0 f) hkey hxr ((H.out.2.2.1.fr0 hfw).fr0 f) (Nat.le_trans hfw.size f.size)
        rw [show putL (gone m left) (left[k].1, left[k].2) = gone m (left.eraseIdx k) from gone_put H.out.2.2.2.1.rise hsub hk] at hput
        have hcut := fun (w1 : World) (f : Fr No wp w1) => its_cut (hrd.fr0 f) hcap hk (by have := hsub.length_le; have := H.out.2.2.2.2.1; omega) (Nat.le_trans hfw.size f.size)
        have HP := Lib.hid (And.intro hput hcut)
        obtain ⟨kx, hkx⟩ : ∃ kx, left[k].1 = kx := ⟨_, rfl⟩
        obtain ⟨lx, hlx⟩ : ∃ lx, left[k].2.length = lx := ⟨_, rfl⟩
        rw [hkx] at x0 HP
        rw [hlx] at x1 HP
        have g0 := Fr.refl No wp
        clear hput hcut hkey hxr hmem hx hkx hlx hsub hnode hrd hcap hfr
        go_wp2_with fail
        go_cut [7] (fun s7 wx => Hid (NodeAt w.heap.size wx s7 (treeOf (gone m (left.eraseIdx k))) ∧ Fr No wp wx))
        case first =>
          go_region_held3 (fun w' => w'.cell? (ad.add (k * 2)) = some (.string kx) ∧ w'.cell? ⟨(ad.add (k * 2)).block, (ad.add (k * 2)).off + 1, none⟩ = some (.slice R lx cx))
            (first
              | exact ⟨x0, x1⟩
              | exact ⟨q0, q1⟩)
            ((go_at_call 13; refine (HP.out.1 _ (by repeat (first | assumption | exact Fr.refl _ _ | apply Fr.drew | apply Fr.drewN))).mono ?_; rintro e3 w3 ⟨u, rfl, hu, hf3⟩
              have g3 : Fr No wp w3 := Fr.trans (by repeat (first | assumption | exact Fr.refl _ _ | apply Fr.drew | apply Fr.drewN)) (hf3.mono fun _ _ f => f.elim)
              have q0 := g3.cell x0 (fun f => f)
              have q1 := g3.cell x1 (fun f => f)
              have HU := Lib.hid hu
              clear hu hf3))
          all_goals
            go_wp2_with fail
            go_meet
            case rel => exact ⟨HU.out.fr0 (by repeat (first | exact Fr.refl _ _ | apply Fr.drew | apply Fr.drewN)), (by repeat (first | assumption | exact Fr.refl _ _ | apply Fr.drew | apply Fr.drewN))⟩
        case rest =>
          have HU := Lib.hid hcut
          obtain ⟨Al, Ah, hl1, hl2, hcat⟩ := HP.out.2 _ hcut.out.2
          have HC := Lib.hid hcat
          clear hcat hcut x0 x1
          go_wp2_with fail
          go_region_law
            (first
              | (refine append_some_step _ _ _ _ rfl rfl rfl rfl (HC.out _ (by repeat (first | exact Fr.refl _ _ | apply Fr.drew | apply Fr.drewN))) ?_
                 rintro A4 c4 w4 ⟨hf4, hnx4⟩
                 have HN := Lib.hid (And.intro hf4 hnx4)
                 clear hf4 hnx4)
              | (refine append_some_step _ _ _ _ rfl rfl rfl rfl (HN.out.2 _ (by repeat (first | exact Fr.refl _ _ | apply Fr.drew | apply Fr.drewN))) ?_
                 rintro A5 c5 w5 ⟨hr5, hc5, hf5⟩
                 have HR := Lib.hid (And.intro hr5 (And.intro hc5 hf5))
                 clear hr5 hc5 hf5))
          all_goals
            go_wp2_with fail
            go_roundw
            case rel => exact ⟨A5, left.length - 1, c5, j + 1, rfl, by go_num, by omega, left.eraseIdx k, by rw [List.length_eraseIdx_of_lt hk], (List.eraseIdx_sublist _ _).trans HS.out.1, HU.out.1.fr0 HR.out.2.2, HR.out.1, HR.out.2.1, HS.out.2.2.2.2.next (HU.out.2.next HR.out.2.2 (fun _ _ f => f.elim)) (fun _ _ f => f.elim)⟩
            case measure => simp [intOf]; omega
    · obtain rfl : left = [] := List.eq_nil_of_length_eq_zero (by omega)
      rw [gone_nil] at hnode
      have hfw := H2.out.2.2.next hfr (fun _ _ f => f.elim)
      have hM := H2.out.1.fr0 hfr
      have hkk := fun (w1 : World) (f : Fr No wr w1) => (H.out.2.2.1.fr0 hfw).fr0 f
      have hdn := fun (w1 : World) (f : Fr No wr w1) => good_dig (hM.node.fr0 f) (hkk w1 f)
      have hdo := fun (w1 : World) (f : Fr No wr w1) => good_dig (hnode.fr0 f) (hkk w1 f)
      have hln := fun (w1 : World) (f : Fr No wr w1) => good_len H.out.2.2.2.1 (hM.node.fr0 f)
      have hlo := fun (w1 : World) (f : Fr No wr w1) => good_len H.out.2.2.2.1 (hnode.fr0 f)
      have hks := fun (w1 : World) (f : Fr No wr w1) => good_keys H.out.2.2.2.1 (hM.node.fr0 f)
      have hko := fun (w1 : World) (f : Fr No wr w1) => good_keys H.out.2.2.2.1 (hnode.fr0 f)
      obtain ⟨X, hX⟩ : ∃ X, digI 256 m 0 = X := ⟨_, rfl⟩
      rw [hX] at hdn hdo
      have htx := fun (w1 : World) (F G : Nat → Prop) (A B : Option Addr) (c d : Nat) (h1 : Rd Ty.str w1 F A (m.map (·.1))) (h2 : Rd Ty.str w1 G B (m.map (·.1))) => ref_texts (c := c) (d := d) h1 h2
      simp only [List.length_map, decide_true] at htx
      have HD := Lib.hid (And.intro hdn (And.intro hdo (And.intro hln (And.intro hlo (And.intro hks (And.intro hko (And.intro htx hfw)))))))
      have hbs : (X.toList == X.toList) = true := beq_self_eq_true _
      clear hdn hdo hln hlo hks hko htx hkk hX hM hnode hrd hcap hsub hfw hfr
      go_wp2_with fail
      refine (HD.out.2.1 _ (Fr.refl _ _)).mono ?_
      rintro e5 w5 ⟨rfl, hf5⟩
      have H5 := Lib.hid hf5
      clear hf5
      go_wp2_with fail
      refine (HD.out.1 _ H5.out).mono ?_
      rintro e6 w6 ⟨rfl, hf6⟩
      have H6 := Lib.hid (H5.out.next hf6 (fun _ _ f => f.elim))
      clear hf6
      go_wp2_with fail
      refine (HD.out.2.2.2.1 _ H6.out).mono ?_
      rintro e w' ⟨rfl, rfl⟩
      go_wp2_with fail
      refine (HD.out.2.2.1 _ H6.out).mono ?_
      rintro e w' ⟨rfl, rfl⟩
      go_wp2_with fail
      refine (HD.out.2.2.2.2.2.1 _ H6.out).mono ?_
      rintro e7 w7 ⟨A7, c7, rfl, hr7, hf7⟩
      have H7 := Lib.hid (And.intro hr7 (H6.out.next hf7 (fun _ _ f => f.elim)))
      clear hr7 hf7
      go_wp2_with fail
      refine (HD.out.2.2.2.2.1 _ H7.out.2).mono ?_
      rintro e8 w8 ⟨A8, c8, rfl, hr8, hf8⟩
      have htx8 := HD.out.2.2.2.2.2.2.1 w8 _ _ A7 A8 c7 c8 (H7.out.1.fr0 hf8) hr8
      have H8 := Lib.hid (And.intro htx8 (H7.out.2.next hf8 (fun _ _ f => f.elim)))
      clear htx8 hr8 hf8
      go_wp2_with fail
      refine H8.out.1.mono ?_
      rintro e9 w9 ⟨rfl, hf9⟩
      have H9 := Lib.hid (H8.out.2.next hf9 (fun _ _ f => f.elim))
      clear hf9
      go_wp2_with fail
      go_ret
      exact ⟨rfl, HD.out.2.2.2.2.2.2.2.next H9.out (fun _ _ f => f.elim)⟩
end Go.Proofs.YtlgmodeibmdcgaaDoor
/- Laws of layer 9 (trie): TrieOrder, whatever the input. -/
set_option linter.unusedVariables false
set_option linter.unusedSimpArgs false
namespace Go.Proofs.YtlgmodeibmdcgaaDoor
open Go.RowKit

set_option maxHeartbeats 2000000 in
set_option maxRecDepth 100000 in
theorem law_order {w : World} {F G : Nat → Prop} {D E : Option Addr} {d e1 : Nat} {l : List Act9} {turn : List UInt8} (h : Rd tAct9 w F D l) (h2 : Rd Ty.u8 w G E turn) (hk : KAt w) :
    Calls Tryd.prog 6 #[.slice D l.length d, .slice E turn.length e1] w fun e w' => e = .returned (.bool true) ∧ Fr No w w' := by
  have hsm := fun (w1 : World) (f : Fr No w w1) => small_ok (c := d) (h.fr0 f)
  have HB := Lib.hid fun (w1 : World) (f : Fr No w w1) => back_ok (hk.fr0 f)
  cases hs : smallB l with
  | true => exact law_order_ok h h2 hs hk
  | false =>
      simp only [hs] at hsm
      have H := Lib.hid hsm
      clear hsm h h2 hk hs
      go_enter Tryd.func6, Tryd.ntmps6
      go_wp2_with fail
      refine (HB.out _ (Fr.refl _ _)).mono ?_
      rintro e w1 ⟨rfl, hf1⟩
      have H1 := Lib.hid hf1
      clear hf1
      go_wp2_with fail
      refine (H.out _ H1.out).mono ?_
      rintro e w' ⟨rfl, rfl⟩
      go_wp2_with fail
      refine (HB.out _ H1.out).mono ?_
      rintro e w2 ⟨rfl, hf2⟩
      have H2 := Lib.hid (H1.out.next hf2 (fun _ _ f => f.elim))
      clear hf2
      go_wp2_with fail
      go_ret
      exact ⟨rfl, H2.out⟩
end Go.Proofs.YtlgmodeibmdcgaaDoor
/- The law TrieOrder of the seat: for every input it returns true, and its arguments read as before; the table of the rounds' numbers is tied to the program's text. -/
set_option linter.unusedVariables false
namespace Go.Proofs.YtlgmodeibmdcgaaDoor.trieOrder
open Go.ChangeShapes Go.WideShapes Go.ChangeAt Go.RowKit
open Go.ChangeMaps (open_string shut_string)
set_option maxRecDepth 100000 in
theorem lifted (os : Os) (started : os.Started) (H : Type) (enc : TypeId × Value → H) :
    ReturnsInHanded {} Tryd.checked os 6 .any (fun w args => (Rows.trieOrderSpec.pre enc Tryd.prog Tryd.f6 [] false w args ∧ laidMetH Tryd.prog lay9 w) ∧ sizedMet enc Tryd.prog Tryd.f6 (OpenSpec.ofChange Rows.trieOrderSpec) false w args)
      (Rows.trieOrderSpec.post enc Tryd.prog Tryd.f6 false true false false) := by
  refine returnsInHanded_of_change_and (C := Tryd.checked) (X := fun w _ => laidMetH Tryd.prog lay9 w) (fun _ _ _ hh h => h.of_heap hh) own started (by kernel_rfl) Tryd.func6
    (ChangeSpec.witness_shaped (enc := enc) (C := Tryd.checked) (os := os) (X := fun w _ => laidMetH Tryd.prog lay9 w) false (World.doorLaid Tryd.prog 400 os) #[.slice none 0 0, .slice none 0 0] 8 rfl (World.shaped_of_RefB (by kernel_rfl) (by kernel_rfl)) (by kernel_rfl) (by kernel_rfl) (by kernel_rfl) (door_met os _)) ?_
  intro W base args ds gs before hval0 hW hcnd hsz0 hL _
  have hsz : (DataW.weightsEach Tryd.prog (Tryd.f6.params.toList ++ Rows.trieOrderSpec.plain.varTypes Tryd.prog) (ds ++ gs)).all (· ≤ reachBytes) = true := hsz0
  have hK := kat_of_laid hL
  have hval : ∀ (j : Nat) t v, Tryd.f6.params[j]? = some t → args[j]? = some v → Value.okWide Tryd.prog W .any base t v := hval0
  have hW' := hW
  obtain ⟨p, q, hA0, hV, rfl, hfz, hnd⟩ := hW
  have hA : DataW.TrodAll enc Tryd.prog W 0 (fun _ => true) true Tryd.f6.params.toList args.toList ds p := hA0
  rw [Tryd.params6] at hA hval hsz
  obtain ⟨v0, vs0, d0, ds0, p0, q0, hargs, rfl, rfl, h0, rest0⟩ := trodAll_cons hA
  obtain ⟨v1, vs1, d1, ds1, p1, q1, rfl, rfl, rfl, h1, rest1⟩ := trodAll_cons rest0
  obtain ⟨rfl, rfl, rfl⟩ := trodAll_nil rest1
  obtain rfl : args = #[v0, v1] := by cases args; simp_all
  obtain ⟨rfl, rfl⟩ := trodVars_none hV
  obtain ⟨a0, len0, c0, rfl⟩ := okWide_slice Tryd.underlying22 (hval 0 22 v0 rfl rfl)
  have k0 := h0
  have lt0 : ∀ x ∈ p0, x.block < W.heap.size := by obtain ⟨m, hm⟩ := k0; exact DataW.trod_lt m _ _ _ hm
  obtain ⟨x0, rfl, l0, r0⟩ := open_top (t := tAct9) opens_acts h0
  obtain ⟨a1, len1, c1, rfl⟩ := okWide_slice Tryd.underlying30 (hval 1 30 v1 rfl rfl)
  have k1 := h1
  have lt1 : ∀ x ∈ p1, x.block < W.heap.size := by obtain ⟨m, hm⟩ := k1; exact DataW.trod_lt m _ _ _ hm
  obtain ⟨x1, rfl, l1, r1⟩ := open_top (t := Ty.u8) opens_bytes h1
  clear hA0 hval0 hsz0 hsz
  refine (law_order (d := c0) (e1 := c1) r0 r1 hK).mono fun e W' ⟨he, hfr⟩ => ?_
  have bel := hfr.to_below
  subst he
  exact ⟨_, rfl, _, _, _, [], _, [], hW', trodAll_mk1 (shut_bool Tryd.underlying4 _), (trodAll_cons_mk (Below.trod laidOut (by kernel_rfl) (of_decide_eq_true (by kernel_rfl)) k0 bel lt0) (trodAll_cons_mk (Below.trod laidOut (by kernel_rfl) (of_decide_eq_true (by kernel_rfl)) k1 bel lt1) trodAll_mk0)), rfl, bel.frame _, fun h => by cases h⟩
theorem over : Rows.trieOrderRow.holds Tryd.pinned (OpenSpec.ofChange Rows.trieOrderSpec) :=
  OpenClaim.holds_of_wide 6 Tryd.f6 rfl rfl rfl rfl rfl rfl rfl ⟨rfl, rfl, rfl, rfl, rfl⟩ rfl rfl rfl rfl rfl (by kernel_rfl) Tryd.func6 (by kernel_rfl)
    (of_decide_eq_true (by kernel_rfl)) (by unfold Func.isWrapper; first | (rw [if_pos (by decide +kernel)]; kernel_rfl) | (rw [if_neg (by decide +kernel)]; exact ⟨rfl, rfl⟩))
    (fun os started H enc _ => lifted os started H enc)
end Go.Proofs.YtlgmodeibmdcgaaDoor.trieOrder
namespace Go.Proofs.YtlgmodeibmdcgaaDoor
open Go
theorem trieOrder_holds : Rows.TrieOrderCardSaid :=
  Claim7.holds_tied_plain_at .later [] [.data] true Rows.trieOrderCard.stood.harness false
    trieOrder.over (fun _ h => by cases h) (by kernel_rfl) (fun _ h => by cases h) trieOrder_row_tie rfl ⟨rfl, rfl⟩ (by kernel_rfl) rfl
    (fun f fn hf hfn => by
      obtain rfl : f = 6 := Option.some.inj ((show Tryd.prog.funcNamed "countinghouse/countinghouselaw09.TrieOrder" = some 6 by kernel_rfl).symm.trans hf) |>.symm
      obtain rfl : fn = Tryd.f6 := (Option.some.inj (Tryd.func6.symm.trans hfn)).symm
      exact ⟨by kernel_rfl, fun j t ht => by
        rw [Tryd.params6] at ht
        have hm : t ∈ [22, 30] := by have := Array.mem_of_getElem? ht; simpa using this
        have hall : ([22, 30].all fun u => !Tryd.prog.wantsStandIn u) = true := by kernel_rfl
        exact (show Tryd.prog.wantsStandIn t = false by simpa using List.all_eq_true.1 hall t hm)⟩)
    (by kernel_rfl)
end Go.Proofs.YtlgmodeibmdcgaaDoor
