/- Laws of layer 9 (trie): made, back. -/
import Derived.Test.YtlgmodeibmdcgaaDoorLaw9a
set_option linter.unusedVariables false
set_option linter.unusedSimpArgs false
namespace Go.Proofs.YtlgmodeibmdcgaaDoor
open Go.RowKit

/-- What has been made of some acts. -/
structure MadeAt (B : Nat) (w : World) (v : Value) (A : Option Addr) (c : Nat) (m : List Itm) : Prop where
  node : NodeAt B w v (treeOf m)
  its : RdI B w A m
  cap : m.length ≤ c
theorem MadeAt.fr0 {B : Nat} {w w' : World} {v : Value} {A : Option Addr} {c : Nat} {m : List Itm} (h : MadeAt B w v A c m) (f : Fr No w w') : MadeAt B w' v A c m := ⟨h.node.fr0 f, h.its.fr0 f, h.cap⟩

set_option maxHeartbeats 4000000 in
set_option maxRecDepth 100000 in
theorem made_ok {B : Nat} {w : World} {F : Nat → Prop} {D : Option Addr} {d : Nat} {l : List Act9} (h : Rd tAct9 w F D l) (hl : smallB l = true) (hk : KAt w) (hB : B ≤ w.heap.size) :
    Calls Tryd.prog 12 #[.slice D l.length d] w fun e w' => ∃ v A c, e = .returned (.tuple #[v, .slice A (itemsOf l).length c]) ∧ MadeAt B w' v A c (itemsOf l) ∧ Fr No w w' := by
  obtain ⟨hrow, hlen⟩ := smallB_all hl
  have hlen' : (l.length : Int) ≤ 40 := by omega
  have H := Lib.hid (And.intro h (And.intro hrow (And.intro hlen (And.intro hk hB))))
  have HK := Lib.hid key_ok
  clear h hrow hlen hk hB hl
  go_enter Tryd.func12, Tryd.ntmps12
  go_wp2_with fail
  go_loopw [4, 5, 6] (fun v s i wr => ∃ (k n : Nat) (A : Option Addr) (c : Nat), k ≤ l.length ∧ i = .int .i64 (k : Int) ∧ s = .slice A n c ∧ Hid (n = (itemsOf (l.take k)).length ∧ MadeAt B wr v A c (itemsOf (l.take k)) ∧ Fr No w wr)) (fun _ _ i _ => l.length - (intOf i).toNat)
  case atStart => exact ⟨0, 0, none, 0, Nat.zero_le _, rfl, rfl, rfl, ⟨rfl, Rd.nil, Nat.le_refl _⟩, Fr.refl _ _⟩
  case round =>
    obtain ⟨k, n, A, c, hk, rfl, rfl, I⟩ := hrel
    obtain ⟨hn, hM, hf⟩ := I.out
    clear I
    have hk0 : (0 : Int) ≤ (k : Int) := Int.natCast_nonneg _
    by_cases hlt : k < l.length
    · have hk1 : (k : Int) < (l.length : Int) := by omega
      obtain ⟨ad, R, cx, rfl, x0, x1, x2, hx⟩ := act_at (H.out.1.fr0 hf) hlt
      obtain ⟨gm, glen⟩ := itemsOf_take H.out.2.1 H.out.2.2.1 k
      have hsucc := itemsOf_succ l hlt
      obtain ⟨m, hm⟩ : ∃ m, itemsOf (l.take k) = m := ⟨_, rfl⟩
      rw [hm] at hn hM gm glen hsucc
      subst hn
      have hrl := H.out.2.1 l[k] (List.getElem_mem hlt)
      obtain ⟨dl, q, row⟩ : ∃ x : Act9, x = l[k] := ⟨_, rfl⟩
      have hsz := Nat.le_trans H.out.2.2.2.2 hf.size
      have hkr := H.out.2.2.2.1.fr0 hf
      cases hdel : l[k].1 with
      | true =>
        rw [hdel] at x0
        have hstep : itemsOf (l.take (k + 1)) = delL m (kq l[k].2.1) := by rw [hsucc]; unfold stepI; rw [hdel]; rfl
        obtain ⟨q, hq⟩ : ∃ q, l[k].2.1 = q := ⟨_, rfl⟩
        rw [hq] at x1 hstep
        obtain ⟨lr, hlr⟩ : ∃ lr, l[k].2.2.length = lr := ⟨_, rfl⟩
        rw [hlr] at x2
        have hkey := kq_key q
        have HD := Lib.hid fun (w1 : World) (f : Fr No wr w1) => good_del gm (kq q) (hM.node.fr0 f) (by rw [hkey.size]; decide) (hkr.fr0 f) (Nat.le_trans hsz f.size)
        have HR := Lib.hid fun (w1 : World) (f : Fr No wr w1) => ref_del (c := c) (kq q) (hM.its.fr0 f) (by omega) (Nat.le_trans hsz f.size)
        have HS := Lib.hid (And.intro hf (And.intro hstep hsz))
        have g0 := Fr.refl No wr
        clear hf hstep hM gm glen hsucc hrl hsz hkr hdel hq hlr hkey hx hm
        go_wp2_with fail
        go_region_held3 (fun w' => w'.cell? (ad.add (k * 3)) = some (.bool true) ∧ w'.cell? ⟨(ad.add (k * 3)).block, (ad.add (k * 3)).off + 1, none⟩ = some (.int .u8 (q.toNat : Int)) ∧ w'.cell? ⟨(ad.add (k * 3)).block, (ad.add (k * 3)).off + 2, none⟩ = some (.slice R lr cx))
          (first
            | exact ⟨x0, x1, x2⟩
            | exact ⟨q0, q1, q2⟩)
          (first
            | (go_at_call 32; refine (HK.out _ _ _ _).mono ?_; rintro e1 w1 ⟨rfl, hf1⟩
               have g1 : Fr No wr w1 := Fr.trans (by repeat (first | assumption | exact Fr.refl _ _ | apply Fr.drew | apply Fr.drewN)) (hf1.mono fun _ _ f => f.elim)
               have q0 := g1.cell x0 (fun f => f)
               have q1 := g1.cell x1 (fun f => f)
               have q2 := g1.cell x2 (fun f => f)
               try (have HU := Lib.hid (HU.out.fr0 (Fr.trans (by repeat (first | exact Fr.refl _ _ | apply Fr.drew | apply Fr.drewN)) (hf1.mono fun _ _ f => f.elim))))
               clear hf1)
            | (go_at_call 14; refine (HD.out _ (by repeat (first | assumption | exact Fr.refl _ _ | apply Fr.drew | apply Fr.drewN))).mono ?_; rintro e2 w2 ⟨u, rfl, hu, hf2⟩
               have g2 : Fr No wr w2 := Fr.trans (by repeat (first | assumption | exact Fr.refl _ _ | apply Fr.drew | apply Fr.drewN)) (hf2.mono fun _ _ f => f.elim)
               have q0 := g2.cell x0 (fun f => f)
               have q1 := g2.cell x1 (fun f => f)
               have q2 := g2.cell x2 (fun f => f)
               have HU := Lib.hid hu
               clear hf2 hu)
            | (go_at_call 34; refine (HR.out _ (by repeat (first | assumption | exact Fr.refl _ _ | apply Fr.drew | apply Fr.drewN))).mono ?_; rintro e3 w3 ⟨A3, c3, rfl, hI, hf3⟩
               have g3 : Fr No wr w3 := Fr.trans (by repeat (first | assumption | exact Fr.refl _ _ | apply Fr.drew | apply Fr.drewN)) (hf3.mono fun _ _ f => f.elim)
               have q0 := g3.cell x0 (fun f => f)
               have q1 := g3.cell x1 (fun f => f)
               have q2 := g3.cell x2 (fun f => f)
               try (have HU := Lib.hid (HU.out.fr0 (Fr.trans (by repeat (first | exact Fr.refl _ _ | apply Fr.drew | apply Fr.drewN)) (hf3.mono fun _ _ f => f.elim))))
               have HI := Lib.hid hI
               clear hf3 hI))
        all_goals
          go_wp2_with fail
          go_roundw
          case rel => exact ⟨k + 1, _, A3, c3, by omega, by go_num, rfl, by rw [HS.out.2.1], by rw [HS.out.2.1]; exact ⟨HU.out.fr0 (by repeat (first | exact Fr.refl _ _ | apply Fr.drew | apply Fr.drewN)), HI.out.1.rd.2.2.fr0 (by repeat (first | exact Fr.refl _ _ | apply Fr.drew | apply Fr.drewN)), HI.out.1.rd.2.1⟩, HS.out.1.trans (Fr.mono (show Fr No wr _ from (by repeat (first | assumption | exact Fr.refl _ _ | apply Fr.drew | apply Fr.drewN))) fun _ _ f => f.elim)⟩
          case measure => simp [intOf]; omega
      | false =>
        rw [hdel] at x0
        have hstep : itemsOf (l.take (k + 1)) = putL m (kq l[k].2.1, l[k].2.2) := by rw [hsucc]; unfold stepI; rw [hdel]; rfl
        obtain ⟨row, hrw⟩ : ∃ row, l[k].2.2 = row := ⟨_, rfl⟩
        rw [hrw] at hstep hrl hx x2
        obtain ⟨q, hq⟩ : ∃ q, l[k].2.1 = q := ⟨_, rfl⟩
        rw [hq] at x1 hstep
        have hkey := kq_key q
        have HD := Lib.hid fun (w1 : World) (f : Fr No wr w1) => good_put (c := cx) gm (kq q) (hM.node.fr0 f) (hx.fr0 f) hkey (by omega) (hkr.fr0 f) (Nat.le_trans hsz f.size)
        have HR := Lib.hid fun (w1 : World) (f : Fr No wr w1) => ref_put (c := c) (d := cx) (kq q) (hM.its.fr0 f) (hx.fr0 f) (by omega) (by omega) (Nat.le_trans hsz f.size) gm.rise
        obtain ⟨lr, hlr⟩ : ∃ lr, row.length = lr := ⟨_, rfl⟩
        rw [hlr] at x2 HD HR
        have HS := Lib.hid (And.intro hf (And.intro hstep hsz))
        have g0 := Fr.refl No wr
        clear hf hstep hM gm glen hsucc hrl hsz hkr hdel hq hlr hkey hx hm hrw
        go_wp2_with fail
        go_region_held3 (fun w' => w'.cell? (ad.add (k * 3)) = some (.bool false) ∧ w'.cell? ⟨(ad.add (k * 3)).block, (ad.add (k * 3)).off + 1, none⟩ = some (.int .u8 (q.toNat : Int)) ∧ w'.cell? ⟨(ad.add (k * 3)).block, (ad.add (k * 3)).off + 2, none⟩ = some (.slice R lr cx))
          (first
            | exact ⟨x0, x1, x2⟩
            | exact ⟨q0, q1, q2⟩)
          (first
            | (go_at_call 32; refine (HK.out _ _ _ _).mono ?_; rintro e1 w1 ⟨rfl, hf1⟩
               have g1 : Fr No wr w1 := Fr.trans (by repeat (first | assumption | exact Fr.refl _ _ | apply Fr.drew | apply Fr.drewN)) (hf1.mono fun _ _ f => f.elim)
               have q0 := g1.cell x0 (fun f => f)
               have q1 := g1.cell x1 (fun f => f)
               have q2 := g1.cell x2 (fun f => f)
               try (have HU := Lib.hid (HU.out.fr0 (Fr.trans (by repeat (first | exact Fr.refl _ _ | apply Fr.drew | apply Fr.drewN)) (hf1.mono fun _ _ f => f.elim))))
               clear hf1)
            | (go_at_call 13; refine (HD.out _ (by repeat (first | assumption | exact Fr.refl _ _ | apply Fr.drew | apply Fr.drewN))).mono ?_; rintro e2 w2 ⟨u, rfl, hu, hf2⟩
               have g2 : Fr No wr w2 := Fr.trans (by repeat (first | assumption | exact Fr.refl _ _ | apply Fr.drew | apply Fr.drewN)) (hf2.mono fun _ _ f => f.elim)
               have q0 := g2.cell x0 (fun f => f)
               have q1 := g2.cell x1 (fun f => f)
               have q2 := g2.cell x2 (fun f => f)
               have HU := Lib.hid hu
               clear hf2 hu)
            | (go_at_call 35; refine (HR.out _ (by repeat (first | assumption | exact Fr.refl _ _ | apply Fr.drew | apply Fr.drewN))).mono ?_; rintro e3 w3 ⟨A3, c3, rfl, hI, hf3⟩
               have g3 : Fr No wr w3 := Fr.trans (by repeat (first | assumption | exact Fr.refl _ _ | apply Fr.drew | apply Fr.drewN)) (hf3.mono fun _ _ f => f.elim)
               have q0 := g3.cell x0 (fun f => f)
               have q1 := g3.cell x1 (fun f => f)
               have q2 := g3.cell x2 (fun f => f)
               try (have HU := Lib.hid (HU.out.fr0 (Fr.trans (by repeat (first | exact Fr.refl _ _ | apply Fr.drew | apply Fr.drewN)) (hf3.mono fun _ _ f => f.elim))))
               have HI := Lib.hid hI
               clear hf3 hI))
        all_goals
          go_wp2_with fail
          go_roundw
          case rel => exact ⟨k + 1, _, A3, c3, by omega, by go_num, rfl, by rw [HS.out.2.1], by rw [HS.out.2.1]; exact ⟨HU.out.fr0 (by repeat (first | exact Fr.refl _ _ | apply Fr.drew | apply Fr.drewN)), HI.out.1.rd.2.2.fr0 (by repeat (first | exact Fr.refl _ _ | apply Fr.drew | apply Fr.drewN)), HI.out.1.rd.2.1⟩, HS.out.1.trans (Fr.mono (show Fr No wr _ from (by repeat (first | assumption | exact Fr.refl _ _ | apply Fr.drew | apply Fr.drewN))) fun _ _ f => f.elim)⟩
          case measure => simp [intOf]; omega
    · obtain rfl : k = l.length := by omega
      rw [List.take_length] at hn hM
      have HS := Lib.hid (And.intro hM hf)
      obtain ⟨m, hm⟩ : ∃ m, itemsOf l = m := ⟨_, rfl⟩
      have HM := Lib.hid hm
      rw [hm] at HS hn
      subst hn
      clear hM hf hm
      go_wp2_with fail
      go_ret2
      rw [HM.out]
      exact ⟨_, A, c, rfl, HS.out.1, HS.out.2⟩
end Go.Proofs.YtlgmodeibmdcgaaDoor
