/- Texts of this claim, one behind the other: Chain4, Right, Store, Keys. -/
import Derived.Test.YtlmhphejgahfbaaGreatDoorMrowledgerfirst13
import Derived.Test.YtlmhphejgahfbaaGreatDoorProg
import Derived.Test.YtlmhphejgahfbaaGreatDoorMrowledgerfirst3
import Derived.Deep.QuietTactic
import Derived.BigQuiet
import Derived.Test.YtlmhphejgahfbaaGreatDoorShelf2
import Derived.Test.YtlmhphejgahfbaaGreatDoorShelf
import Derived.Sort.KeysCollected
/- Layer 12 (chain), third part: Trim. -/
set_option linter.unusedVariables false
set_option linter.unusedSimpArgs false
namespace Go.Proofs.YtlmhphejgahfbaaGreatDoor
open Go.RowKit

theorem Chn.ok_trim {c : Chn} (h : c.Ok) (a : Int) : (c.trim a).Ok :=
  ⟨h.1.sublist (List.drop_sublist _ _), fun v hv => h.2 v (List.mem_of_mem_drop hv)⟩

theorem chain_shut1 {w w3 : World} {F : Nat → Prop} {b : Nat} {c : Chn} {v v3 : Value} (hf : F b) (lb : b < w.heap.size) (ho : c.Ok) (hb : w3.heap[b]? = some (.cells #[v, .int .i64 c.last] 280 (0, 0)))
    (hw : Ow tVer 282 w3 (fun k => (F k ∧ k ≠ b) ∨ w.heap.size ≤ k) v3 c.l) (hW : Fr F w w3) :
    ChainAt (w3.setCell ⟨b, 0, none⟩ v3) (fun k => F k ∨ w.heap.size ≤ k) b c ∧ Fr F w (w3.setCell ⟨b, 0, none⟩ v3) := by
  refine ⟨⟨.inl hf, ho, v3, by simpa using blk_set hb 0 v3, ?_⟩, hW.set _ (.inl hf) _⟩
  have hn : ¬ ((F b ∧ b ≠ b) ∨ w.heap.size ≤ b) := by rintro (⟨_, h⟩ | h); exact h rfl; omega
  refine (hw.set _ hn _).mono fun k hk _ => ?_
  rcases hk with hk | hk
  · exact ⟨.inl hk.1, hk.2⟩
  · exact ⟨.inr hk, by omega⟩

set_option maxHeartbeats 1000000 in
theorem chain_trim {w : World} {F : Nat → Prop} {b : Nat} {c : Chn} {a : Int} (h : ChainAt w F b c) (hl : c.l.length ≤ 1000000000) :
    Calls Tryz.prog 151 #[.pointer (some ⟨b, 0, none⟩), .int .i64 a] w fun e w' =>
      e = .returned (.int .i64 (c.cut a)) ∧ ChainAt w' (fun k => F k ∨ w.heap.size ≤ k) b (c.trim a) ∧ Fr F w w' := by
  have hle := seen_le c a
  have hs := chain_seen (a := a) h hl
  by_cases h0 : c.seen a = 0
  · have hg : c.cut a = 0 := by unfold Chn.cut; split <;> simp [h0]
    have ht : c.trim a = c := by unfold Chn.trim; rw [hg]; rfl
    rw [ht, hg]
    rw [h0] at hs
    have HS := Lib.hid (And.intro hs h)
    clear hs hle h0 hg ht h
    go_enter Tryz.func151, Tryz.ntmps151
    go_wp2_with (go_at_call 202; refine HS.out.1.mono ?_; rintro e w' ⟨rfl, hf⟩)
    go_ret
    exact ⟨rfl, (HS.out.2.fr0 hf).mono fun k hk _ => .inl hk, hf.mono fun _ _ f => f.elim⟩
  · obtain ⟨i, hie⟩ : ∃ i, c.seen a = i + 1 := ⟨c.seen a - 1, by omega⟩
    have hi : i < c.l.length := by omega
    have hcut : c.cut a = if c.l[i].gone then i + 1 else i := by
      unfold Chn.cut
      rw [hie]
      simp [hi]
    obtain ⟨g, hgg⟩ : ∃ g, c.l[i].gone = g := ⟨_, rfl⟩
    rw [hgg] at hcut
    obtain ⟨hf, ho, v, hb, hw⟩ := h
    have ho' := Chn.ok_trim ho a
    obtain ⟨A, cp, rfl, hcp, hrd⟩ := hw.slice
    have c0 := blk_cell hb 0
    have lb := blk_lt hb
    simp at c0
    rw [hie] at hs
    obtain ⟨k, hk⟩ : ∃ k, c.cut a = k := ⟨_, rfl⟩
    have hkn : k ≤ c.l.length := by rw [← hk, hcut]; split <;> omega
    obtain ⟨A', hrun, hA'⟩ := cut_lo tVer 278 282 .i64 Tryz.underlying278 (by kernel_rfl : (Tryz.prog.info? 282).map (·.size) = some 3) A c.l.length cp k hkn hcp
    have hrd' : Rd tVer w (fun k => F k ∧ k ≠ b) A' (c.trim a).l := by
      have := hA' w _ c.l rfl hrd
      unfold Chn.trim
      rw [hk]
      exact this
    have hlen : (c.trim a).l.length = c.l.length - k := by unfold Chn.trim; simp [hk]
    have h1 : ∀ w1, Fr No w w1 → ∃ ad, A = some ad ∧ w1.cell? ⟨(ad.add (i * 3)).block, (ad.add (i * 3)).off + 2, none⟩ = some (.bool g) ∧ w1.cell? ⟨b, 0, none⟩ = some (.slice A c.l.length cp) := by
      intro w1 f
      obtain ⟨ad, cs, e, hk, e0, e1⟩ := (hrd.fr0 f).get' hi (by decide)
      obtain ⟨A', c', rfl, _, hq⟩ := tVer_open hk
      exact ⟨ad, e, by rw [← hgg]; exact e1 2 _ (by decide) rfl, (f.to_below.cell (p := ⟨b, 0, none⟩) lb).trans c0⟩
    have hlast : (c.trim a).last = c.last := rfl
    have HS := Lib.hid hs
    have H1 := Lib.hid h1
    clear h1
    have HH := Lib.hid (And.intro hf (And.intro ho' (And.intro hb (And.intro hw (And.intro hrd' (And.intro hlen hlast))))))
    have hi0 : (0 : Int) ≤ (i : Int) := Int.natCast_nonneg _
    have hi1 : (i : Int) < (c.l.length : Int) := by omega
    rw [hk]
    clear hs hb hw ho hle h0 hf hrd ho' hrd' hA' hie hlen hlast hgg
    have hkg : k = if g = true then i + 1 else i := by rw [← hk, hcut]
    clear hk hcut hi
    generalize c.trim a = ct at *
    generalize c.l.length = n at *
    have arm : ∀ w1, Fr No w w1 → ∃ cs, Row tVer w1 (fun i_ => ((F i_ ∧ i_ ≠ b) ∧ (Value.slice none 0 0).ownBlock ≠ some i_)) ct.l cs ∧ At w1 A' cs := by
      intro w1 f
      obtain ⟨cs, h1, h2⟩ := (HH.out.2.2.2.2.1.fr0 f).at
      exact ⟨cs, h1.mono fun k hk _ => ⟨hk, by simp [Value.ownBlock]⟩, h2⟩
    have ARM := Lib.hid arm
    clear arm
    cases g
    · obtain rfl : k = i := by simpa using hkg
      clear hkg
      go_enter Tryz.func151, Tryz.ntmps151
      go_wp2_with (first
        | (go_at_call 202; refine HS.out.mono ?_; rintro e w1 ⟨rfl, hf1⟩; obtain ⟨ad, rfl, x2, xb⟩ := H1.out w1 hf1; obtain ⟨cs, hR, hAt⟩ := ARM.out w1 hf1; have HR := Lib.hid (And.intro hR hAt); clear hR hAt)
        | (at_builtin; refine ow_append tVer (F := fun k => F k ∧ k ≠ b) (Ow.nil) _ _ _ 40 rfl rfl Tryz.underlying278 info_ver rfl (by decide) (by decide) rfl rfl HH.out.2.2.2.2.2.1.symm HR.out.1 HR.out.2 (by have := HH.out; simp; omega) ?_
           intro A3 c3 w3 hown3 hg3 hat3
           have hb3 : w3.heap[b]? = some _ := (hg3.block b (by have := hf1.size; omega) (by simp [Value.ownBlock])).trans (hf1.blk HH.out.2.2.1 (fun f => f))
           have k0 := blk_cell hb3 0; have z0 := blk_frozen hb3 0; simp at k0
           have hW : Fr No w w3 := hf1.grown hg3 (fun k hk => by simp [Value.ownBlock] at hk)
           have ho3 : Ow tVer 282 w3 (fun k => (F k ∧ k ≠ b) ∨ w.heap.size ≤ k) (.slice A3 ct.l.length c3) ct.l := by
             have := hown3; simp only [List.length_nil, Nat.zero_add, List.nil_append] at this
             exact this.mono fun k hk _ => hk.imp id fun h => by have := hf1.size; omega
           have H3 := Lib.hid (And.intro hb3 (And.intro hW ho3)); clear hb3 hW ho3 hown3 hg3 hat3))
      go_ret
      have h3 := H3.out
      have hc := HH.out
      rw [← hc.2.2.2.2.2.2] at h3
      have := chain_shut1 hc.1 lb hc.2.1 h3.1 h3.2.2 (h3.2.1.mono fun _ _ f => f.elim)
      exact ⟨rfl, this.1, this.2⟩
    · obtain rfl : k = i + 1 := by simpa using hkg
      clear hkg
      have hrun' : ∀ W, Sem.run Tryz.prog (Instr.slice 278 (.slice A n cp) (some (.int .i64 ((i : Int) + 1))) none none) W = .ok (.slice A' (n - (i + 1)) (cp - (i + 1))) W := hrun
      clear hrun
      have hn2 : (n : Int) ≤ 1000000000 := by omega
      go_enter Tryz.func151, Tryz.ntmps151
      go_wp2_with (first
        | (go_at_call 202; refine HS.out.mono ?_; rintro e w1 ⟨rfl, hf1⟩; obtain ⟨ad, rfl, x2, xb⟩ := H1.out w1 hf1; obtain ⟨cs, hR, hAt⟩ := ARM.out w1 hf1; have HR := Lib.hid (And.intro hR hAt); clear hR hAt)
        | (at_builtin; refine ow_append tVer (F := fun k => F k ∧ k ≠ b) (Ow.nil) _ _ _ 40 rfl rfl Tryz.underlying278 info_ver rfl (by decide) (by decide) rfl rfl HH.out.2.2.2.2.2.1.symm HR.out.1 HR.out.2 (by have := HH.out; simp; omega) ?_
           intro A3 c3 w3 hown3 hg3 hat3
           have hb3 : w3.heap[b]? = some _ := (hg3.block b (by have := hf1.size; omega) (by simp [Value.ownBlock])).trans (hf1.blk HH.out.2.2.1 (fun f => f))
           have k0 := blk_cell hb3 0; have z0 := blk_frozen hb3 0; simp at k0
           have hW : Fr No w w3 := hf1.grown hg3 (fun k hk => by simp [Value.ownBlock] at hk)
           have ho3 : Ow tVer 282 w3 (fun k => (F k ∧ k ≠ b) ∨ w.heap.size ≤ k) (.slice A3 ct.l.length c3) ct.l := by
             have := hown3; simp only [List.length_nil, Nat.zero_add, List.nil_append] at this
             exact this.mono fun k hk _ => hk.imp id fun h => by have := hf1.size; omega
           have H3 := Lib.hid (And.intro hb3 (And.intro hW ho3)); clear hb3 hW ho3 hown3 hg3 hat3))
      go_ret
      have h3 := H3.out
      have hc := HH.out
      rw [← hc.2.2.2.2.2.2] at h3
      have := chain_shut1 hc.1 lb hc.2.1 h3.1 h3.2.2 (h3.2.1.mono fun _ _ f => f.elim)
      exact ⟨rfl, this.1, this.2⟩
end Go.Proofs.YtlmhphejgahfbaaGreatDoor
/- Layer 6 (record): may a batch be? -/
set_option linter.unusedVariables false
set_option linter.unusedSimpArgs false
namespace Go.Proofs.YtlmhphejgahfbaaGreatDoor
open Go.RowKit

set_option maxHeartbeats 1000000 in
theorem fits_ok {w : World} (k last : ByteArray) (g : Bool) (A : Option Addr) (c : Nat) (r : Bs) (hk : k.size ≤ 9223372036854775807) (hr : r.length ≤ 9223372036854775807) :
    Calls Tryz.prog 195 #[.agg #[.string k, .slice A r.length c, .bool g], .string last] w fun e w' => e = .returned (.bool (fits ⟨k, r, g⟩ last)) ∧ Fr No w w' := by
  have hf : fits ⟨k, r, g⟩ last = (decide (1 ≤ k.size) && decide (k.size ≤ 4000) && decide (r.length ≤ 4000) && (!(Op.bytesLess k.toList last.toList || k.toList == last.toList)) && (!g || decide (r.length = 0))) := by
    rw [kl_not]; rfl
  rw [hf]
  clear hf
  generalize r.length = n at *
  have e0 : decide (n = 0) = ((n : Int) == 0) := by rw [Bool.eq_iff_iff]; simp
  rw [e0]
  clear e0
  have hn0 : (0 : Int) ≤ (n : Int) := Int.natCast_nonneg _
  have hk0 : (0 : Int) ≤ (k.size : Int) := Int.natCast_nonneg _
  have HF := Lib.hid ((Fr.refl No w).alloc (.cells #[.string k, .slice A n c, .bool g] 117))
  by_cases h1 : 1 ≤ k.size
  · by_cases h2 : k.size ≤ 4000
    · by_cases h3 : n ≤ 4000
      · cases h4 : Op.bytesLess k.toList last.toList <;> cases h5 : (k.toList == last.toList)
        · cases g
          · go_enter Tryz.func195, Tryz.ntmps195
            go_wp2
            all_goals (go_ret; exact ⟨by simp [*], HF.out⟩)
          · cases h6 : ((n : Int) == 0)
            all_goals
              go_enter Tryz.func195, Tryz.ntmps195
              go_wp2
              all_goals (go_ret; exact ⟨by simp [*], HF.out⟩)
        all_goals
          go_enter Tryz.func195, Tryz.ntmps195
          go_wp2
          all_goals (go_ret; exact ⟨by simp [*], HF.out⟩)
      · go_enter Tryz.func195, Tryz.ntmps195
        go_wp2
        all_goals (go_ret; exact ⟨by simp [*], HF.out⟩)
    · go_enter Tryz.func195, Tryz.ntmps195
      go_wp2
      all_goals (go_ret; exact ⟨by simp [*], HF.out⟩)
  · go_enter Tryz.func195, Tryz.ntmps195
    go_wp2
    all_goals (go_ret; exact ⟨by simp [*], HF.out⟩)

/-- Each element's cells, wherever the loop stands. -/
theorem wr_at {w : World} {F : Nat → Prop} {A : Option Addr} {ws : List Wr} (h : Rd tWr w F A ws) {i : Nat} (hi : i < ws.length) :
    ∃ ad A' c', A = some ad ∧ w.cell? (ad.add (i * 3)) = some (.string ws[i].key) ∧ w.cell? ⟨(ad.add (i * 3)).block, (ad.add (i * 3)).off + 1, none⟩ = some (.slice A' ws[i].row.length c') ∧
      w.cell? ⟨(ad.add (i * 3)).block, (ad.add (i * 3)).off + 2, none⟩ = some (.bool ws[i].gone) ∧ ws[i].row.length ≤ c' ∧ Rd Ty.u8 w F A' ws[i].row := by
  obtain ⟨ad, cs, e, hk, e0, e1⟩ := h.get' hi (by decide)
  obtain ⟨A', c', rfl, h1, h2⟩ := tWr_open hk
  exact ⟨ad, A', c', e, e0 _ rfl, e1 1 _ (by decide) rfl, e1 2 _ (by decide) rfl, h1, h2⟩
def lastKey (last : ByteArray) (l : List Wr) : ByteArray := (l.getLast?.map Wr.key).getD last
theorem allFit_take {last : ByteArray} {l : List Wr} {i : Nat} (hi : i < l.length) : allFit last (l.take (i + 1)) = (allFit last (l.take i) && fits l[i] (lastKey last (l.take i))) := by
  rw [List.take_succ_eq_append_getElem hi, allFit_append]; rfl
theorem allFit_prefix {last : ByteArray} {l : List Wr} (i : Nat) (h : allFit last l = true) : allFit last (l.take i) = true := by
  induction l generalizing last i with
  | nil => simpa using h
  | cons y l ih =>
    cases i with
    | zero => rfl
    | succ i => simp only [allFit, Bool.and_eq_true, List.take_succ_cons] at h ⊢; exact ⟨h.1, ih _ h.2⟩
theorem lastKey_take {last : ByteArray} {l : List Wr} {i : Nat} (hi : i < l.length) : lastKey last (l.take (i + 1)) = l[i].key := by
  unfold lastKey; rw [List.take_succ_eq_append_getElem hi, List.getLast?_concat]; rfl

set_option maxHeartbeats 1000000 in
theorem right_ok {w : World} {F : Nat → Prop} (n : Int) (A : Option Addr) (c : Nat) (ws : List Wr) (h : Rd tWr w F A ws) (hl : ws.length ≤ 1000000000) (hk : ∀ x ∈ ws, x.key.size ≤ 9223372036854775807) :
    Calls Tryz.prog 143 #[.agg #[.int .i64 n, .slice A ws.length c]] w fun e w' => e = .returned (.bool (right n ws)) ∧ Fr No w w' := by
  have HR := Lib.hid h
  have HK := Lib.hid hk
  clear h hk
  go_enter Tryz.func143, Tryz.ntmps143
  go_wp2
  go_loopw [3, 9] (fun last i wr => ∃ k : Nat, k ≤ ws.length ∧ i = .int .i64 k ∧ last = .string (lastKey ⟨#[]⟩ (ws.take k)) ∧ Hid (allFit ⟨#[]⟩ (ws.take k) = true) ∧ Hid (Fr No (w.alloc (.cells #[.int .i64 n, .slice A ws.length c] 69)) wr)) (fun _ i _ => ws.length - (intOf i).toNat)
  case atStart => exact ⟨0, Nat.zero_le _, rfl, rfl, rfl, Fr.refl _ _⟩
  case round =>
    obtain ⟨k, hk, rfl, rfl, ha, hf⟩ := hrel
    have hb1 : wr.cell? ⟨w.heap.size, 1, none⟩ = some (.slice A ws.length c) := hf.out.cell (by simp) (fun f => f)
    have hb0 : wr.cell? ⟨w.heap.size, 0, none⟩ = some (.int .i64 n) := hf.out.cell (by simp) (fun f => f)
    have hwr : Fr No w wr := (((Fr.refl No w).alloc _).trans (hf.out.mono fun _ _ f => f.elim))
    have hn1 : (ws.length : Int) ≤ 1000000000 := by omega
    by_cases hlt : k < ws.length
    · obtain ⟨ad, A', c', rfl, x0, x1, x2, _, hrd⟩ := wr_at (HR.out.fr0 hwr) hlt
      have hrow : ws[k].row.length ≤ 9223372036854775807 := hrd.1
      have hfit := allFit_take (last := ⟨#[]⟩) hlt
      rw [ha.out, Bool.true_and] at hfit
      have hkey := lastKey_take (last := ⟨#[]⟩) hlt
      have hsz := HK.out _ (List.getElem_mem hlt)
      obtain ⟨x, hx⟩ : ∃ x, ws[k] = x := ⟨_, rfl⟩
      rw [hx] at x0 x1 x2 hfit hkey hsz hrow
      have hk0 : (0 : Int) ≤ (k : Int) := Int.natCast_nonneg _
      have hk1 : (k : Int) < (ws.length : Int) := by omega
      have HFit := Lib.hid (And.intro hfit (And.intro hkey hwr))
      clear hfit hkey hx hwr hrd
      cases hfx : fits x (lastKey ⟨#[]⟩ (ws.take k))
      · have hno : Hid (right n ws = false) := by
          have : allFit ⟨#[]⟩ ws = false := by
            cases hA : allFit ⟨#[]⟩ ws with
            | false => rfl
            | true => have := allFit_prefix (k + 1) hA; rw [HFit.out.1, hfx] at this; cases this
          show _ = _
          unfold right
          rw [this]; rfl
        go_wp2_with (go_at_call 195; refine (fits_ok _ _ _ _ _ _ hsz hrow).mono ?_; rintro e w1 ⟨rfl, hf1⟩; rw [show (⟨x.key, x.row, x.gone⟩ : Wr) = x from rfl, hfx])
        go_ret
        exact ⟨by rw [hno.out]; rfl, (HFit.out.2.2.alloc _).trans (hf1.mono fun _ _ f => f.elim)⟩
      · go_wp2_with (go_at_call 195; refine (fits_ok _ _ _ _ _ _ hsz hrow).mono ?_; rintro e w1 ⟨rfl, hf1⟩; rw [show (⟨x.key, x.row, x.gone⟩ : Wr) = x from rfl, hfx]
                     have hb5 : w1.cell? ⟨wr.heap.size, 0, none⟩ = some (.string x.key) := hf1.cell (by simp) (fun f => f))
        go_roundw
        case rel => exact ⟨k + 1, by omega, by go_num, by rw [HFit.out.2.1], by show _ = _; rw [HFit.out.1]; exact hfx, (hf.out.alloc _).trans (hf1.mono fun _ _ f => f.elim)⟩
        case measure => simp [intOf]; omega
    · obtain rfl : k = ws.length := by omega
      rw [List.take_length] at ha
      have hr : Hid (right n ws = (decide (1 ≤ n) && decide (1 ≤ ws.length) && decide (ws.length ≤ 64))) := by
        show _ = _
        unfold right
        rw [ha.out, Bool.true_and]
      by_cases h1 : 1 ≤ n
      · by_cases h2 : 1 ≤ ws.length
        · go_wp2
          go_ret
          exact ⟨by rw [hr.out, decide_eq_true h1, decide_eq_true h2]; simp; omega, hwr⟩
        · go_wp2
          go_ret
          exact ⟨by rw [hr.out, decide_eq_true h1, decide_eq_false h2]; rfl, hwr⟩
      · go_wp2
        go_ret
        exact ⟨by rw [hr.out, decide_eq_false (show ¬ 1 ≤ n by omega)]; rfl, hwr⟩
end Go.Proofs.YtlmhphejgahfbaaGreatDoor
/- Layer 13 (store): how a store lies in memory. -/
set_option linter.unusedVariables false
set_option linter.unusedSimpArgs false
namespace Go.Proofs.YtlmhphejgahfbaaGreatDoor
open Go.RowKit

theorem slay_cons {β : Type} (k : ByteArray) (v : β) (p : ByteArray × β) (l : List (ByteArray × β)) : slay k v (p :: l) = if kl k p.1 then (k, v) :: p :: l else if k = p.1 then (k, v) :: l else p :: slay k v l := rfl
theorem slay_slay {β : Type} (k : ByteArray) (u v : β) (l : List (ByteArray × β)) : slay k v (slay k u l) = slay k v l := by
  induction l with
  | nil => simp [slay, kl_irrefl]
  | cons p l ih =>
    rw [slay_cons k u, slay_cons k v]
    by_cases h1 : kl k p.1 = true
    · rw [if_pos h1, if_pos h1, slay_cons]; simp [kl_irrefl]
    · rw [if_neg h1, if_neg h1]
      by_cases h2 : k = p.1
      · rw [if_pos h2, if_pos h2, slay_cons]; simp [kl_irrefl]
      · rw [if_neg h2, if_neg h2, slay_cons, if_neg h1, if_neg h2, ih]

/-- A map's pointers lead to chains, each apart from the others. -/
structure Held (w : World) (l : List (ByteArray × Value)) (kc : List (ByteArray × Chn)) (G : ByteArray → Nat → Prop) : Prop where
  rising : Rising (kc.map Prod.fst)
  keys : ∀ k, look k l = none ↔ look k kc = none
  at_ : ∀ k v c, look k l = some v → look k kc = some c → ∃ b, v = .pointer (some ⟨b, 0, none⟩) ∧ ChainAt w (G k) b c
  lt : ∀ k i, G k i → i < w.heap.size
  apart : ∀ k k' i, k ≠ k' → G k i → ¬ G k' i

section
variable {w w' : World} {l : List (ByteArray × Value)} {kc : List (ByteArray × Chn)} {G : ByteArray → Nat → Prop}
theorem Held.stab (h : Held w l kc G) (hs : w.heap.size ≤ w'.heap.size) (hk : ∀ k i, G k i → w'.heap[i]? = w.heap[i]?) : Held w' l kc G :=
  ⟨h.rising, h.keys, fun k v c h1 h2 => by
    obtain ⟨b, e, hc⟩ := h.at_ k v c h1 h2
    exact ⟨b, e, hc.stab fun i hi _ => hk k i hi⟩, fun k i hi => Nat.lt_of_lt_of_le (h.lt k i hi) hs, h.apart⟩
theorem Held.fr {S : Nat → Prop} (h : Held w l kc G) (f : Fr S w w') (hd : ∀ k i, G k i → ¬ S i) : Held w' l kc G := h.stab f.size fun k i hi => f.block i (h.lt k i hi) (hd k i hi)
theorem Held.fr0 (h : Held w l kc G) (f : Fr No w w') : Held w' l kc G := h.fr f fun _ _ _ f => f
/-- One chain is written. -/
theorem Held.turn (h : Held w l kc G) {k0 : ByteArray} {b : Nat} {c' : Chn} (hv : look k0 l = some (.pointer (some ⟨b, 0, none⟩))) (f : Fr (G k0) w w') (hc : ChainAt w' (fun i => G k0 i ∨ w.heap.size ≤ i) b c') :
    ∃ G', Held w' l (slay k0 c' kc) G' ∧ ∀ k i, G' k i → (∃ k', G k' i) ∨ w.heap.size ≤ i := by
  have hk0 : look k0 kc ≠ none := fun e => by rw [(h.keys k0).2 e] at hv; cases hv
  refine ⟨fun k i => if k = k0 then (G k0 i ∨ w.heap.size ≤ i) ∧ i < w'.heap.size else G k i, ⟨slay_rising h.rising, fun k => ?_, fun k v c h1 h2 => ?_, fun k i hi => ?_, fun k k' i hne hi => ?_⟩, fun k i hi => ?_⟩
  · rw [look_slay h.rising]
    split
    · rename_i e; subst e; rw [hv]; simp
    · exact h.keys k
  · rw [look_slay h.rising] at h2
    by_cases e : k = k0
    · subst e
      rw [if_pos rfl] at h2
      injection h2 with h2
      rw [hv] at h1
      injection h1 with h1
      subst h1; subst h2
      exact ⟨b, rfl, hc.mono fun i hi hl => by simp only [if_true]; exact ⟨hi, hl⟩⟩
    · rw [if_neg (fun e' => e e'.symm)] at h2
      obtain ⟨b', e', hc'⟩ := h.at_ k v c h1 h2
      refine ⟨b', e', ?_⟩
      simp only [if_neg e]
      exact hc'.fr f fun i hi hg => h.apart k k0 i e hi hg
  · split at hi
    · exact hi.2
    · exact Nat.lt_of_lt_of_le (h.lt k i hi) f.size
  · intro hi'
    split at hi <;> split at hi' <;> rename_i e1 e2
    · exact hne (e1.trans e2.symm)
    · rcases hi.1 with hg | hg
      · exact h.apart k0 k' i (fun e => e2 e.symm) hg hi'
      · have := h.lt k' i hi'; omega
    · rcases hi'.1 with hg | hg
      · exact h.apart k k0 i e1 hi hg
      · have := h.lt k i hi; omega
    · exact h.apart k k' i hne hi hi'
  · dsimp only at hi
    split at hi
    · rcases hi.1 with hg | hg
      · exact .inl ⟨k0, hg⟩
      · exact .inr hg
    · exact .inl ⟨k, hi⟩
/-- A key is new. -/
theorem Held.more (h : Held w l kc G) {k0 : ByteArray} {b : Nat} (hk : look k0 kc = none) (f : Fr No w w') (hc : ChainAt w' (fun i => w.heap.size ≤ i) b Chn.empty) :
    ∃ G', Held w' (lay k0 (.pointer (some ⟨b, 0, none⟩)) l) (slay k0 Chn.empty kc) G' ∧ ∀ k i, G' k i → (∃ k', G k' i) ∨ w.heap.size ≤ i := by
  refine ⟨fun k i => if k = k0 then w.heap.size ≤ i ∧ i < w'.heap.size else G k i, ⟨slay_rising h.rising, fun k => ?_, fun k v c h1 h2 => ?_, fun k i hi => ?_, fun k k' i hne hi => ?_⟩, fun k i hi => ?_⟩
  · rw [look_slay h.rising, look_lay]
    split
    · simp
    · exact h.keys k
  · rw [look_slay h.rising] at h2
    rw [look_lay] at h1
    by_cases e : k = k0
    · subst e
      rw [if_pos rfl] at h1 h2
      injection h2 with h2
      injection h1 with h1
      subst h1; subst h2
      exact ⟨b, rfl, hc.mono fun i hi hl => by simp only [if_true]; exact ⟨hi, hl⟩⟩
    · rw [if_neg (fun e' => e e'.symm)] at h1 h2
      obtain ⟨b', e', hc'⟩ := h.at_ k v c h1 h2
      refine ⟨b', e', ?_⟩
      simp only [if_neg e]
      exact hc'.fr0 f
  · split at hi
    · exact hi.2
    · exact Nat.lt_of_lt_of_le (h.lt k i hi) f.size
  · intro hi'
    split at hi <;> split at hi' <;> rename_i e1 e2
    · exact hne (e1.trans e2.symm)
    · have := h.lt k' i hi'; omega
    · have := h.lt k i hi; omega
    · exact h.apart k k' i hne hi hi'
  · dsimp only at hi
    split at hi
    · exact .inr hi.1
    · exact .inl ⟨k, hi⟩
end

/-- A store behind a pointer; F bounds all its blocks. -/
def StoreAt (w : World) (F : Nat → Prop) (sb : Nat) (s : Sto) : Prop :=
  F sb ∧ ∃ mb l G, F mb ∧ mb ≠ sb ∧ w.heap[sb]? = some (.cells #[.map (some mb), .int .i64 s.now] 159 (0, 0)) ∧ MapIs w mb l ∧ Held w l s.kc G ∧ ∀ k i, G k i → F i ∧ i ≠ sb ∧ i ≠ mb
theorem StoreAt.stab {w w' : World} {F : Nat → Prop} {sb : Nat} {s : Sto} (h : StoreAt w F sb s) (hs : w.heap.size ≤ w'.heap.size) (k : ∀ k, F k → k < w.heap.size → w'.heap[k]? = w.heap[k]?) : StoreAt w' F sb s := by
  obtain ⟨h1, mb, l, G, h2, h3, h4, h5, h6, h7⟩ := h
  exact ⟨h1, mb, l, G, h2, h3, (k _ h1 (blk_lt h4)).trans h4, h5.stab (k _ h2 h5.lt), h6.stab hs fun k' i hi => k i (h7 k' i hi).1 (h6.lt k' i hi), h7⟩
theorem StoreAt.fr {S : Nat → Prop} {w w' : World} {F : Nat → Prop} {sb : Nat} {s : Sto} (h : StoreAt w F sb s) (f : Fr S w w') (hd : ∀ k, F k → ¬ S k) : StoreAt w' F sb s := h.stab f.size fun k hk hl => f.block k hl (hd k hk)
theorem StoreAt.fr0 {w w' : World} {F : Nat → Prop} {sb : Nat} {s : Sto} (h : StoreAt w F sb s) (f : Fr No w w') : StoreAt w' F sb s := h.stab f.size fun k hk hl => f.block k hl (fun f => f)
theorem StoreAt.mono {w : World} {F F' : Nat → Prop} {sb : Nat} {s : Sto} (h : StoreAt w F sb s) (k : ∀ k, F k → k < w.heap.size → F' k) : StoreAt w F' sb s := by
  obtain ⟨h1, mb, l, G, h2, h3, h4, h5, h6, h7⟩ := h
  exact ⟨k _ h1 (blk_lt h4), mb, l, G, k _ h2 h5.lt, h3, h4, h5, h6, fun k' i hi => ⟨k i (h7 k' i hi).1 (h6.lt k' i hi), (h7 k' i hi).2⟩⟩
theorem StoreAt.rising {w : World} {F : Nat → Prop} {sb : Nat} {s : Sto} (h : StoreAt w F sb s) : Rising (s.kc.map Prod.fst) := by
  obtain ⟨h1, mb, l, G, h2, h3, h4, h5, h6, h7⟩ := h
  exact h6.rising

theorem store_new (w : World) : Calls Tryz.prog 40 #[] w fun e w' => ∃ b, e = .returned (.pointer (some ⟨b, 0, none⟩)) ∧ StoreAt w' (fun k => w.heap.size ≤ k) b Sto.empty ∧ Fr No w w' := by
  have hmm := @run_makeMap Tryz.prog
  go_enter Tryz.func40, Tryz.ntmps40
  go_wp2
  go_ret
  refine ⟨w.heap.size + 1, rfl, ⟨by omega, w.heap.size, [], fun _ _ => False, Nat.le_refl _, by omega, ?_, ?_, ⟨List.Pairwise.nil, fun k => ⟨fun _ => rfl, fun _ => rfl⟩, (fun k v c h => by cases h), (fun k i h => h.elim), (fun k k' i _ h => h.elim)⟩, (fun k i h => h.elim)⟩, ((Fr.refl No w).alloc _).alloc _⟩
  · have := heap_alloc_new (w.alloc (.map #[] 0)) (.cells #[.map (some w.heap.size), .int .i64 0] 159)
    rw [World.size_alloc] at this
    exact this
  · exact (MapIs.new w).stab (Below.heap_alloc _ _ _ (by simp))
end Go.Proofs.YtlmhphejgahfbaaGreatDoor
/- 'slices.Sorted(maps.Keys(m))' of a map keyed by texts: its keys, rising, in new memory. -/
set_option linter.unusedVariables false
set_option linter.unusedSimpArgs false
namespace Go.Proofs.YtlmhphejgahfbaaGreatDoor
open Go.RowKit Go.Maps Go.Sort Go.Shelf Go.WideElems Go.WideShapes

/-- Whatever a value is: the keys alone are asked. -/
def AnyElem : Value → Option (DataW Unit × List MemPlace) := fun _ => some (.lit (.bool false), [])
theorem MapIs.owns {P : Program} {w : World} {b : Nat} {l : List (ByteArray × Value)} {kt : TypeId} (h : MapIs w b l) (hk : P.underlying kt = some .string) (hs : ∀ p ∈ l, p.1.size ≤ maxLen) (hl : l.length ≤ maxLen) :
    ∃ D : DataW Unit, w.ownsMap P kt AnyElem b l.length D ∧ (strKeys D).Perm (l.map fun p => p.1.data.toList) ∧ Maps.size D = l.length := by
  obtain ⟨es, c, hb, he⟩ := h
  have hrd : ∀ (x : MapEntry) (s : ByteArray), x.key = .string s → s.size ≤ maxLen → WideElems.rd (H := Unit) P kt AnyElem x = some (.string s.data.toList, .lit (.bool false)) := fun x s hx hsz => by
    unfold WideElems.rd
    simp [keyOf, hk, mapKey, hx, hsz, AnyElem]
  have hkey : ∀ x ∈ es.toList, ∃ p ∈ l, x.key = .string p.1 := fun x hx => by
    obtain ⟨j, hj⟩ := List.getElem?_of_mem hx
    obtain ⟨p, hp, h1, _⟩ := he.at hj
    exact ⟨p, List.mem_of_getElem? hp, h1⟩
  have hrg : es.toList.map (rg (H := Unit) P kt AnyElem) = l.map fun p => (Lit.string p.1.data.toList, DataW.lit (.bool false)) := by
    apply List.ext_getElem?
    intro j
    simp only [List.getElem?_map]
    cases hj : es.toList[j]? with
    | none =>
      have : l[j]? = none := by
        rw [List.getElem?_eq_none_iff] at hj ⊢
        have := he.size
        simp at hj; omega
      rw [this]; rfl
    | some x =>
      obtain ⟨p, hp, h1, _⟩ := he.at hj
      rw [hp]
      simp only [Option.map_some, Option.some.injEq]
      unfold rg
      rw [hrd x p.1 h1 (hs p (List.mem_of_getElem? hp))]
      rfl
  refine ⟨_, ⟨es, c, hb, ⟨by rw [he.size]; exact hl, he.st, fun x hx => ?_⟩, by rw [he.size]; exact Nat.le_refl _, rfl⟩, ?_, ?_⟩
  · obtain ⟨p, hp, h1⟩ := hkey x hx
    exact ⟨_, hrd x p.1 h1 (hs p hp)⟩
  · show ((List.foldr DataW.insert [] _).map fun p => strOf p.1).Perm _
    rw [hrg]
    have h1 := (sorted_perm (H := Unit) (l.map fun p => (Lit.string p.1.data.toList, DataW.lit (.bool false)))).map fun p => strOf p.1
    simpa [List.map_map, Function.comp_def, strOf] using h1
  · show (List.foldr DataW.insert [] _).length = _
    rw [hrg, (sorted_perm _).length_eq, List.length_map]

theorem rising_sorted {ks : List ByteArray} (h : Rising ks) {ss : List (List UInt8)} (hp : ss.Perm (ks.map fun k => k.data.toList)) : (ss.mergeSort (fun x y => decide (x ≤ y))).map encStr = ks.map Value.string := by
  have h1 : ss.mergeSort leB = (ks.map fun k => k.data.toList).mergeSort leB := mergeSort_of_perm hp
  have h2 : (ks.map fun k => k.data.toList).mergeSort leB = ks.map fun k => k.data.toList := by
    refine List.mergeSort_of_pairwise (List.pairwise_map.2 (List.Pairwise.imp (fun {a b} hab => ?_) h))
    rw [kl_eq, toList_data, toList_data] at hab
    exact decide_eq_true (List.le_of_lt (of_decide_eq_true hab))
  show (ss.mergeSort leB).map encStr = _
  rw [h1, h2, List.map_map]
  apply List.map_congr_left
  intro k _
  simp [encStr, Function.comp]

theorem keys_perm {ks : List ByteArray} {l : List (ByteArray × Value)} (hr : Rising ks) (hn : (l.map Prod.fst).Nodup) (h : ∀ k, look k l = none ↔ k ∉ ks) : (l.map fun p => p.1.data.toList).Perm (ks.map fun k => k.data.toList) := by
  have : (l.map Prod.fst).Perm ks := (List.perm_ext_iff_of_nodup hn hr.nodup).2 fun k => by
    have := h k
    rw [look_none_iff] at this
    exact ⟨fun h => Classical.byContradiction fun hn => this.2 hn h, fun h => Classical.byContradiction fun hn => this.1 hn h⟩
  simpa [List.map_map, Function.comp_def] using this.map fun k : ByteArray => k.data.toList

set_option maxHeartbeats 1000000 in
/-- maps.Keys, and slices.Sorted of what it handed back. -/
theorem keys_ok (b : Nat) (l : List (ByteArray × Value)) (ks : List ByteArray) (w : World) (h : MapIs w b l) (hr : Rising ks) (hks : ∀ k, look k l = none ↔ k ∉ ks) (hs : ∀ k ∈ ks, k.size ≤ maxLen) (hl : ks.length ≤ 1000000000) :
    (Calls Tryz.prog 201 #[.map (some b)] w fun e w' => e = .returned (.func (.func 231) #[] #[.pointer (some ⟨w.heap.size, 0, none⟩)]) ∧ w' = w.alloc (.cells #[.map (some b)] 157)) ∧
    Calls Tryz.prog 138 #[.func (.func 231) #[] #[.pointer (some ⟨w.heap.size, 0, none⟩)]] (w.alloc (.cells #[.map (some b)] 157)) fun e w' =>
      ∃ A c, e = .returned (.slice A ks.length c) ∧ Ow Ty.str 9 w' (fun i => w.heap.size ≤ i) (.slice A ks.length c) ks ∧ Fr No w w' := by
  have hp := keys_perm hr h.nodup hks
  have hlen : l.length = ks.length := by simpa using hp.length_eq
  have hsl : ∀ p ∈ l, p.1.size ≤ maxLen := fun p hp' => by
    refine hs p.1 ?_
    rcases Classical.em (p.1 ∈ ks) with hm | hm
    · exact hm
    · exact absurd (List.mem_map.2 ⟨p, hp', rfl⟩) (look_none_iff.1 ((hks p.1).2 hm))
  obtain ⟨D0, hown, hperm, hsz⟩ := h.owns (P := Tryz.prog) Tryz.underlying9 hsl (by unfold maxLen; omega)
  have hbl := hown.lt
  have hmax : Maps.size D0 ≤ maxLen := by rw [hsz]; unfold maxLen; omega
  refine ⟨callsIn_wide.1 (AnyZ.keys_in Tryz.keys201 Fence.wide 5 trivial rfl (some b) w), ?_⟩
  have hseq : SeqGives Fence.wide 2 Tryz.prog 231 #[.pointer (some ⟨w.heap.size, 0, none⟩)] encStr (fun ss => ss.Perm (strKeys D0)) (Maps.size D0) (w.alloc (.cells #[.map (some b)] 157)) :=
    AnyZ.keys_gives (ρ := Tryz.keys201_ren) { Tryz.keys201 with } Fence.wide _ trivial rfl (by omega) w.heap.size b l.length D0 _ (by simp) (by simp) (by
      obtain ⟨es, clock, hb, Ft, hs, hD⟩ := hown
      exact ⟨es, clock, (Below.heap_alloc _ _ b hbl).trans hb, Ft, hs, hD⟩)
  have hsorts : ∀ m, AnyZ.SortsIn Tryz.prog Tryz.sorted138_ren Fence.wide m := fun m =>
    ⟨fun blk off cap ss W hH hblk hsz => callsIn_wide.2 (AnyM.slices_Sort_string Tryz.sort183 blk off cap ss W hH hblk hsz), fun p cap W => callsIn_wide.2 (AnyM.slices_Sort_string_none Tryz.sort183 p cap W)⟩
  have hc := callsIn_wide.1 (AnyZ.sorted_in Tryz.sorted138 Fence.wide 5 trivial trivial trivial trivial rfl (by omega) (hsorts _) (enters_of Tryz.func183 (by kernel_rfl) rfl)
    231 #[.pointer (some ⟨w.heap.size, 0, none⟩)] trivial (enters_of Tryz.func231 (by kernel_rfl) rfl) _ _ hmax (by rw [hsz]; omega) _ hseq)
  refine hc.mono ?_
  rintro e w' ⟨v, ss, rfl, hS, hrow, hnil, hb⟩
  have hS2 : ss.Perm (ks.map fun k => k.data.toList) := (hS.trans hperm).trans hp
  rw [rising_sorted hr hS2] at hrow
  have hsl2 : ss.length = ks.length := by simpa using hS2.length_eq
  rw [hsl2] at hrow
  have hO : Ow Ty.str 9 w' (fun i => w.heap.size ≤ i) v ks := by
    refine ⟨ks.map Value.string, ⟨hrow.1, hrow.2.imp id ?_⟩, ?_, fun k hk => by have := (hrow.lt k hk).1; simp at this; omega⟩
    · rintro ⟨g, cap, cur, h1, h2, h3⟩; exact ⟨g, cap, cur, h1, Nat.zero_le _, h3⟩
    · clear hrow hnil hS2 hp hlen hks hr hs hl hsl2
      induction ks with
      | nil => rfl
      | cons k ks ih => exact ⟨[.string k], ks.map Value.string, rfl, rfl, ih⟩
  obtain ⟨A, c, rfl, _, _⟩ := hO.slice
  exact ⟨A, c, rfl, hO, ((Fr.refl No w).alloc _).trans ((Fr.below hb).mono fun _ _ f => f.elim)⟩
end Go.Proofs.YtlmhphejgahfbaaGreatDoor
