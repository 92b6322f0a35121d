/- Texts of this claim, one behind the other: Chain3, Chain4. -/
import Derived.Test.YtlmhphejgahfbaaGreatDoorMrowledgernil3
import Derived.Deep.RegionLaw
import Derived.BigRegion
/- Layer 12 (chain), second part: Get, Put, Trim. -/
set_option linter.unusedVariables false
set_option linter.unusedSimpArgs false
namespace Go.Proofs.YtlmhphejgahfbaaGreatDoor
open Go.RowKit

theorem chain_seen_nil (a : Int) (w : World) : Calls Tryz.prog 202 #[.pointer none, .int .i64 a] w fun e w' => e = .returned (.int .i64 (-1)) ∧ Fr No w w' := by
  have H : ∀ m, Fr No w (((w.alloc (.cells #[.pointer none] 224)).alloc (.cells #[.int .i64 a] 2)).drewN m) := fun m => (((Fr.refl No w).alloc _).alloc _).drewN m
  have hs := search_ok 233 #[.pointer (some ⟨w.heap.size, 0, none⟩), .pointer (some ⟨w.heap.size + 1, 0, none⟩)] (fun i => true) 0 0
    ((w.alloc (.cells #[.pointer none] 224)).alloc (.cells #[.int .i64 a] 2)) (by omega) (by omega) (fun i hi => by omega) (fun i hi hi' => by omega) Tryz.call233 (fun i m hi => by omega)
  have HS := Lib.hid hs
  clear hs
  go_enter Tryz.func202, Tryz.ntmps202
  go_wp2_with (first
    | (go_at_call 153; refine (chain_len_nil _).mono ?_; rintro e w' ⟨rfl, rfl⟩)
    | (go_at_call 232; refine HS.out.mono ?_; rintro e w' ⟨rfl, m, rfl⟩))
  go_ret
  exact ⟨rfl, H m⟩

/-- A row, or none, as two results. -/
def RowOk (w w' : World) (e : Ending) (r : Option Bs) : Prop :=
  ∃ A1 c1, e = .returned (.tuple #[.slice A1 (r.getD []).length c1, .bool r.isSome]) ∧ Ow Ty.u8 5 w' (fun k => w.heap.size ≤ k) (.slice A1 (r.getD []).length c1) (r.getD [])

theorem chain_get_nil (a : Int) (w : World) : Calls Tryz.prog 173 #[.pointer none, .int .i64 a] w fun e w' => RowOk w w' e none ∧ Fr No w w' := by
  go_enter Tryz.func173, Tryz.ntmps173
  go_wp2_with (go_at_call 202; refine (chain_seen_nil _ _).mono ?_; rintro e w' ⟨rfl, hf⟩)
  go_ret2
  exact ⟨⟨none, 0, rfl, Ow.nil⟩, hf⟩

theorem chain_get {w : World} {F : Nat → Prop} {b : Nat} {c : Chn} {a : Int} (h : ChainAt w F b c) (hl : c.l.length ≤ 1000000000) (hr : ∀ v ∈ c.l, v.row.length ≤ 1000000000) :
    Calls Tryz.prog 173 #[.pointer (some ⟨b, 0, none⟩), .int .i64 a] w fun e w' => RowOk w w' e (c.get a) ∧ Fr No w w' := by
  have hle := seen_le c a
  have hs := chain_seen (a := a) h hl
  obtain ⟨hf, ho, v, hb, hw⟩ := h
  obtain ⟨A, cp, rfl, hcp, hrd⟩ := hw.slice
  have c0 := blk_cell hb 0
  have lb := blk_lt hb
  simp at c0
  by_cases h0 : c.seen a = 0
  · have hg : c.get a = none := by unfold Chn.get; split <;> simp [h0]
    rw [hg]
    rw [h0] at hs
    have HS := Lib.hid hs
    clear hs c0 hw hb ho hrd hle h0 hg hr
    go_enter Tryz.func173, Tryz.ntmps173
    go_wp2_with (go_at_call 202; refine HS.out.mono ?_; rintro e w' ⟨rfl, hf⟩)
    go_ret2
    exact ⟨⟨none, 0, rfl, Ow.nil⟩, hf⟩
  · have hi : c.seen a - 1 < c.l.length := by omega
    obtain ⟨i, hie⟩ : ∃ i, c.seen a = i + 1 := ⟨c.seen a - 1, by omega⟩
    have hi : i < c.l.length := by omega
    have hget : c.get a = if c.l[i].gone then none else some c.l[i].row := by
      unfold Chn.get
      rw [hie]
      simp [hi]
    rw [hget]
    rw [hie] at hs
    have hrow : c.l[i].row.length ≤ 1000000000 := hr _ (List.getElem_mem hi)
    have HS := Lib.hid hs
    have HR := Lib.hid hrd
    have hi0 : (0 : Int) ≤ (i : Int) := Int.natCast_nonneg _
    have hi1 : (i : Int) < (c.l.length : Int) := by omega
    clear hs hw hb ho hle h0 hr hrd hie hget
    have H1 : ∀ w1, Fr No w w1 → ∃ ad A' c', A = some ad ∧ w1.cell? (ad.add (i * 3)) = some (.int .i64 c.l[i].at_) ∧ w1.cell? ⟨(ad.add (i * 3)).block, (ad.add (i * 3)).off + 1, none⟩ = some (.slice A' c.l[i].row.length c') ∧
        w1.cell? ⟨(ad.add (i * 3)).block, (ad.add (i * 3)).off + 2, none⟩ = some (.bool c.l[i].gone) ∧ Rd Ty.u8 w1 (fun k => F k ∧ k ≠ b) A' c.l[i].row ∧ w1.cell? ⟨b, 0, none⟩ = some (.slice A c.l.length cp) := by
      intro w1 f
      obtain ⟨ad, cs, e, hk, e0, e1⟩ := (HR.out.fr0 f).get' hi (by decide)
      obtain ⟨A', c', rfl, _, hq⟩ := tVer_open hk
      exact ⟨ad, A', c', e, e0 _ rfl, e1 1 _ (by decide) rfl, e1 2 _ (by decide) rfl, hq, (f.to_below.cell (p := ⟨b, 0, none⟩) lb).trans c0⟩
    have H1 := Lib.hid H1
    generalize c.l[i].gone = g at *
    generalize c.l[i].row = row at *
    generalize c.l[i].at_ = y at *
    generalize c.l.length = n at *
    cases g
    · go_enter Tryz.func173, Tryz.ntmps173
      go_wp2_with (first
        | (go_at_call 202; refine HS.out.mono ?_; rintro e w1 ⟨rfl, hf1⟩; obtain ⟨ad, A', c', rfl, x0, x1, x2, hq, xb⟩ := H1.out w1 hf1)
        | (go_simp; go_at_call 100; refine (clone_ok hq rfl (by omega)).mono ?_; rintro e w2 ⟨A1, c1, rfl, ho2, hf2⟩))
      go_ret2
      exact ⟨⟨A1, c1, rfl, ho2.mono fun k hk _ => by have := hf1.size; omega⟩, hf1.trans (hf2.mono fun _ _ f => f.elim)⟩
    · go_enter Tryz.func173, Tryz.ntmps173
      go_wp2_with (go_at_call 202; refine HS.out.mono ?_; rintro e w1 ⟨rfl, hf1⟩; obtain ⟨ad, A', c', rfl, x0, x1, x2, hq, xb⟩ := H1.out w1 hf1)
      go_ret2
      exact ⟨⟨none, 0, rfl, Ow.nil⟩, hf1⟩

theorem Ow.set {α : Type} {t : Ty α} {e : TypeId} {w : World} {F : Nat → Prop} {v : Value} {xs : List α} (h : Ow t e w F v xs) (p : Addr) (hp : ¬ F p.block) (u : Value) : Ow t e (w.setCell p u) F v xs :=
  h.stab fun k hk _ => Below.heap_setCell _ _ _ _ (by rintro rfl; exact hp hk)
theorem Chn.ok_put {c : Chn} (h : c.Ok) {a : Int} (ha : c.last < a) (row : Bs) (gone : Bool) : (c.put a row gone).Ok := by
  refine ⟨List.pairwise_append.2 ⟨h.1, List.pairwise_singleton _ _, fun x hx y hy => ?_⟩, fun v hv => ?_⟩
  · have := h.2 x hx
    obtain rfl : y = _ := by simpa using hy
    show x.at_ < a
    omega
  · rcases List.mem_append.1 hv with hv | hv
    · have := h.2 v hv
      show v.at_ ≤ a
      omega
    · obtain rfl : v = _ := by simpa using hv
      exact Int.le_refl _

theorem chain_shut {w w3 : World} {F : Nat → Prop} {b : Nat} {c : Chn} {v v3 : Value} {a0 : Int} (hf : F b) (lb : b < w.heap.size) (ho : c.Ok) (hb : w3.heap[b]? = some (.cells #[v, .int .i64 a0] 280 (0, 0)))
    (hw : Ow tVer 282 w3 (fun k => (F k ∧ k ≠ b) ∨ w.heap.size ≤ k) v3 c.l) (hW : Fr F w w3) :
    ChainAt ((w3.setCell ⟨b, 0, none⟩ v3).setCell ⟨b, 1, none⟩ (.int .i64 c.last)) (fun k => F k ∨ w.heap.size ≤ k) b c ∧ Fr F w ((w3.setCell ⟨b, 0, none⟩ v3).setCell ⟨b, 1, none⟩ (.int .i64 c.last)) := by
  refine ⟨⟨.inl hf, ho, v3, by simpa using blk_set (blk_set hb 0 v3) 1 (.int .i64 c.last), ?_⟩, (hW.set _ (.inl hf) _).set _ (.inl hf) _⟩
  have hn : ¬ ((F b ∧ b ≠ b) ∨ w.heap.size ≤ b) := by rintro (⟨_, h⟩ | h); exact h rfl; omega
  refine ((hw.set _ hn _).set _ hn _).mono fun k hk _ => ?_
  rcases hk with hk | hk
  · exact ⟨.inl hk.1, hk.2⟩
  · exact ⟨.inr hk, by omega⟩

set_option maxHeartbeats 1000000 in
theorem chain_put {w : World} {F G : Nat → Prop} {b : Nat} {c : Chn} {a : Int} {A2 : Option Addr} {c2 : Nat} {row : Bs} {gone : Bool} (h : ChainAt w F b c) (hl : c.l.length ≤ 1000000000) (hrow : row.length ≤ 1000000000)
    (hR : Rd Ty.u8 w G A2 row) (ha : c.last < a) :
    Calls Tryz.prog 145 #[.pointer (some ⟨b, 0, none⟩), .int .i64 a, .slice A2 row.length c2, .bool gone] w fun e w' =>
      e = .returned (.int .i64 0) ∧ ChainAt w' (fun k => F k ∨ w.heap.size ≤ k) b (c.put a row gone) ∧ Fr F w w' := by
  obtain ⟨hf, ho, v, hb, hw⟩ := h
  have ho' := Chn.ok_put ho ha row gone
  obtain ⟨A, cp, rfl, hcp, hrd⟩ := hw.slice
  have c0 := blk_cell hb 0
  have c1 := blk_cell hb 1
  have lb := blk_lt hb
  simp at c0 c1
  have hsz : ∀ k, (Value.slice A c.l.length cp).ownBlock = some k → k < w.heap.size := fun k hk => (hw.own hk).2
  have hown : ∀ w1, Fr No w w1 → Ow tVer 282 w1 (fun k => (F k ∧ k ≠ b) ∨ w.heap.size ≤ k) (.slice A c.l.length cp) c.l := fun w1 f => (hw.mono fun k hk _ => .inl hk).fr0 f
  have hne : (Value.slice A c.l.length cp).ownBlock ≠ some b := fun hk => (hw.own hk).1.2 rfl
  have HN := Lib.hid hne
  clear hne
  have HH := Lib.hid (And.intro hsz (And.intro hown (And.intro hb (And.intro hR (And.intro hl (And.intro hrow (And.intro ho' (And.intro hf hw))))))))
  clear hb hw hR hrd ho hl hrow ho' hsz hown hf
  have h1 : ∀ w1, Fr No w w1 → w1.heap[b]? = some (.cells #[.slice A c.l.length cp, .int .i64 c.last] 280 (0, 0)) := fun w1 f => f.blk HH.out.2.2.1 (fun f => f)
  have H1 := Lib.hid h1
  clear h1
  go_enter Tryz.func145, Tryz.ntmps145
  go_wp2_with fail
  go_region_law
    (first
      | (go_simp; go_at_call 100; refine (clone_ok (HH.out.2.2.2.1.fr0 ((Fr.refl No w).drew)) rfl (by have := HH.out; omega)).mono ?_; rintro e w2 ⟨A1, c1', rfl, ho2, hf2⟩
         have hf3 : Fr No w w2 := ((Fr.refl No w).drew).trans (hf2.mono fun _ _ f => f.elim); have k2 := blk_cell (H1.out _ hf3) 0; simp at k2; have k2a : ∀ o, (w2.alloc o).cell? ⟨b, 0, none⟩ = some (.slice A c.l.length cp) := fun o => cell_alloc k2 o)
      | (refine ow_append_step tVer (ys := [⟨a, row, gone⟩]) (HH.out.2.1 _ (by repeat (first | exact hf3 | apply Fr.alloc | apply Fr.drew | apply Fr.drewN))) _ _ _ 40 rfl rfl Tryz.underlying278 info_ver rfl (by decide) (by decide) rfl rfl rfl
           (Row.single (tVer_mk (A := A1) (c := c1') ho2.rd.2.1 (by
              refine (ho2.rd.2.2.fr0 ((Fr.refl No w2).alloc _)).mono fun k hk _ => ?_
              have hk' : w.heap.size ≤ k := hk
              exact ⟨.inr hk', fun he => by have := HH.out.1 k he; omega⟩))) (At.block (heap_alloc_new _ _)) (by have := HH.out; simp; omega) ?_
         intro A3 c3 w3 hown3 hg3 hat3
         have hb3 : w3.heap[b]? = some _ := (hg3.block b (by simp; have := hf3.size; omega) (fun e => HN.out e.symm)).trans (H1.out _ (hf3.alloc _))
         have k0 := blk_cell hb3 0; have k1 := blk_cell hb3 1; have z0 := blk_frozen hb3 0; have z1 := blk_frozen hb3 1; simp at k0 k1
         have HB3 := Lib.hid hb3; clear hb3; have hW : Fr F w w3 := ((hf3.alloc _).mono (fun _ _ f => f.elim)).grown hg3 (fun k hk => by have := HH.out; first | exact .inl ((this.2.2.2.2.2.2.2.2.own hk).1.1) | skip)))
  all_goals
    have hown4 : Ow tVer 282 w3 (fun k => (F k ∧ k ≠ b) ∨ w.heap.size ≤ k) (.slice A3 (c.l.length + 1) c3) (c.put a row gone).l := hown3.mono fun k hk _ => by
      rcases hk with hk | hk
      · exact hk
      · simp at hk; have := hf3.size; exact .inr (by omega)
    have HO := Lib.hid hown4
    clear hown3 hg3 hat3 hown4 k2 hf2 ho2 hf3
    go_wp2
    go_ret
    have := chain_shut HH.out.2.2.2.2.2.2.2.1 lb HH.out.2.2.2.2.2.2.1 HB3.out HO.out hW
    exact ⟨rfl, this.1, this.2⟩
end Go.Proofs.YtlmhphejgahfbaaGreatDoor
/- Layer 12 (chain), third part: Trim. -/
set_option linter.unusedVariables false
set_option linter.unusedSimpArgs false
namespace Go.Proofs.YtlmhphejgahfbaaGreatDoor
open Go.RowKit

theorem Chn.ok_trim {c : Chn} (h : c.Ok) (a : Int) : (c.trim a).Ok :=
  ⟨h.1.sublist (List.drop_sublist _ _), fun v hv => h.2 v (List.mem_of_mem_drop hv)⟩

theorem chain_shut1 {w w3 : World} {F : Nat → Prop} {b : Nat} {c : Chn} {v v3 : Value} (hf : F b) (lb : b < w.heap.size) (ho : c.Ok) (hb : w3.heap[b]? = some (.cells #[v, .int .i64 c.last] 280 (0, 0)))
    (hw : Ow tVer 282 w3 (fun k => (F k ∧ k ≠ b) ∨ w.heap.size ≤ k) v3 c.l) (hW : Fr F w w3) :
    ChainAt (w3.setCell ⟨b, 0, none⟩ v3) (fun k => F k ∨ w.heap.size ≤ k) b c ∧ Fr F w (w3.setCell ⟨b, 0, none⟩ v3) := by
  refine ⟨⟨.inl hf, ho, v3, by simpa using blk_set hb 0 v3, ?_⟩, hW.set _ (.inl hf) _⟩
  have hn : ¬ ((F b ∧ b ≠ b) ∨ w.heap.size ≤ b) := by rintro (⟨_, h⟩ | h); exact h rfl; omega
  refine (hw.set _ hn _).mono fun k hk _ => ?_
  rcases hk with hk | hk
  · exact ⟨.inl hk.1, hk.2⟩
  · exact ⟨.inr hk, by omega⟩

set_option maxHeartbeats 1000000 in
theorem chain_trim {w : World} {F : Nat → Prop} {b : Nat} {c : Chn} {a : Int} (h : ChainAt w F b c) (hl : c.l.length ≤ 1000000000) :
    Calls Tryz.prog 151 #[.pointer (some ⟨b, 0, none⟩), .int .i64 a] w fun e w' =>
      e = .returned (.int .i64 (c.cut a)) ∧ ChainAt w' (fun k => F k ∨ w.heap.size ≤ k) b (c.trim a) ∧ Fr F w w' := by
  have hle := seen_le c a
  have hs := chain_seen (a := a) h hl
  by_cases h0 : c.seen a = 0
  · have hg : c.cut a = 0 := by unfold Chn.cut; split <;> simp [h0]
    have ht : c.trim a = c := by unfold Chn.trim; rw [hg]; rfl
    rw [ht, hg]
    rw [h0] at hs
    have HS := Lib.hid (And.intro hs h)
    clear hs hle h0 hg ht h
    go_enter Tryz.func151, Tryz.ntmps151
    go_wp2_with (go_at_call 202; refine HS.out.1.mono ?_; rintro e w' ⟨rfl, hf⟩)
    go_ret
    exact ⟨rfl, (HS.out.2.fr0 hf).mono fun k hk _ => .inl hk, hf.mono fun _ _ f => f.elim⟩
  · obtain ⟨i, hie⟩ : ∃ i, c.seen a = i + 1 := ⟨c.seen a - 1, by omega⟩
    have hi : i < c.l.length := by omega
    have hcut : c.cut a = if c.l[i].gone then i + 1 else i := by
      unfold Chn.cut
      rw [hie]
      simp [hi]
    obtain ⟨g, hgg⟩ : ∃ g, c.l[i].gone = g := ⟨_, rfl⟩
    rw [hgg] at hcut
    obtain ⟨hf, ho, v, hb, hw⟩ := h
    have ho' := Chn.ok_trim ho a
    obtain ⟨A, cp, rfl, hcp, hrd⟩ := hw.slice
    have c0 := blk_cell hb 0
    have lb := blk_lt hb
    simp at c0
    rw [hie] at hs
    obtain ⟨k, hk⟩ : ∃ k, c.cut a = k := ⟨_, rfl⟩
    have hkn : k ≤ c.l.length := by rw [← hk, hcut]; split <;> omega
    obtain ⟨A', hrun, hA'⟩ := cut_lo tVer 278 282 .i64 Tryz.underlying278 (by kernel_rfl : (Tryz.prog.info? 282).map (·.size) = some 3) A c.l.length cp k hkn hcp
    have hrd' : Rd tVer w (fun k => F k ∧ k ≠ b) A' (c.trim a).l := by
      have := hA' w _ c.l rfl hrd
      unfold Chn.trim
      rw [hk]
      exact this
    have hlen : (c.trim a).l.length = c.l.length - k := by unfold Chn.trim; simp [hk]
    have h1 : ∀ w1, Fr No w w1 → ∃ ad, A = some ad ∧ w1.cell? ⟨(ad.add (i * 3)).block, (ad.add (i * 3)).off + 2, none⟩ = some (.bool g) ∧ w1.cell? ⟨b, 0, none⟩ = some (.slice A c.l.length cp) := by
      intro w1 f
      obtain ⟨ad, cs, e, hk, e0, e1⟩ := (hrd.fr0 f).get' hi (by decide)
      obtain ⟨A', c', rfl, _, hq⟩ := tVer_open hk
      exact ⟨ad, e, by rw [← hgg]; exact e1 2 _ (by decide) rfl, (f.to_below.cell (p := ⟨b, 0, none⟩) lb).trans c0⟩
    have hlast : (c.trim a).last = c.last := rfl
    have HS := Lib.hid hs
    have H1 := Lib.hid h1
    clear h1
    have HH := Lib.hid (And.intro hf (And.intro ho' (And.intro hb (And.intro hw (And.intro hrd' (And.intro hlen hlast))))))
    have hi0 : (0 : Int) ≤ (i : Int) := Int.natCast_nonneg _
    have hi1 : (i : Int) < (c.l.length : Int) := by omega
    rw [hk]
    clear hs hb hw ho hle h0 hf hrd ho' hrd' hA' hie hlen hlast hgg
    have hkg : k = if g = true then i + 1 else i := by rw [← hk, hcut]
    clear hk hcut hi
    generalize c.trim a = ct at *
    generalize c.l.length = n at *
    have arm : ∀ w1, Fr No w w1 → ∃ cs, Row tVer w1 (fun i_ => ((F i_ ∧ i_ ≠ b) ∧ (Value.slice none 0 0).ownBlock ≠ some i_)) ct.l cs ∧ At w1 A' cs := by
      intro w1 f
      obtain ⟨cs, h1, h2⟩ := (HH.out.2.2.2.2.1.fr0 f).at
      exact ⟨cs, h1.mono fun k hk _ => ⟨hk, by simp [Value.ownBlock]⟩, h2⟩
    have ARM := Lib.hid arm
    clear arm
    cases g
    · obtain rfl : k = i := by simpa using hkg
      clear hkg
      go_enter Tryz.func151, Tryz.ntmps151
      go_wp2_with (first
        | (go_at_call 202; refine HS.out.mono ?_; rintro e w1 ⟨rfl, hf1⟩; obtain ⟨ad, rfl, x2, xb⟩ := H1.out w1 hf1; obtain ⟨cs, hR, hAt⟩ := ARM.out w1 hf1; have HR := Lib.hid (And.intro hR hAt); clear hR hAt)
        | (at_builtin; refine ow_append tVer (F := fun k => F k ∧ k ≠ b) (Ow.nil) _ _ _ 40 rfl rfl Tryz.underlying278 info_ver rfl (by decide) (by decide) rfl rfl HH.out.2.2.2.2.2.1.symm HR.out.1 HR.out.2 (by have := HH.out; simp; omega) ?_
           intro A3 c3 w3 hown3 hg3 hat3
           have hb3 : w3.heap[b]? = some _ := (hg3.block b (by have := hf1.size; omega) (by simp [Value.ownBlock])).trans (hf1.blk HH.out.2.2.1 (fun f => f))
           have k0 := blk_cell hb3 0; have z0 := blk_frozen hb3 0; simp at k0
           have hW : Fr No w w3 := hf1.grown hg3 (fun k hk => by simp [Value.ownBlock] at hk)
           have ho3 : Ow tVer 282 w3 (fun k => (F k ∧ k ≠ b) ∨ w.heap.size ≤ k) (.slice A3 ct.l.length c3) ct.l := by
             have := hown3; simp only [List.length_nil, Nat.zero_add, List.nil_append] at this
             exact this.mono fun k hk _ => hk.imp id fun h => by have := hf1.size; omega
           have H3 := Lib.hid (And.intro hb3 (And.intro hW ho3)); clear hb3 hW ho3 hown3 hg3 hat3))
      go_ret
      have h3 := H3.out
      have hc := HH.out
      rw [← hc.2.2.2.2.2.2] at h3
      have := chain_shut1 hc.1 lb hc.2.1 h3.1 h3.2.2 (h3.2.1.mono fun _ _ f => f.elim)
      exact ⟨rfl, this.1, this.2⟩
    · obtain rfl : k = i + 1 := by simpa using hkg
      clear hkg
      have hrun' : ∀ W, Sem.run Tryz.prog (Instr.slice 278 (.slice A n cp) (some (.int .i64 ((i : Int) + 1))) none none) W = .ok (.slice A' (n - (i + 1)) (cp - (i + 1))) W := hrun
      clear hrun
      have hn2 : (n : Int) ≤ 1000000000 := by omega
      go_enter Tryz.func151, Tryz.ntmps151
      go_wp2_with (first
        | (go_at_call 202; refine HS.out.mono ?_; rintro e w1 ⟨rfl, hf1⟩; obtain ⟨ad, rfl, x2, xb⟩ := H1.out w1 hf1; obtain ⟨cs, hR, hAt⟩ := ARM.out w1 hf1; have HR := Lib.hid (And.intro hR hAt); clear hR hAt)
        | (at_builtin; refine ow_append tVer (F := fun k => F k ∧ k ≠ b) (Ow.nil) _ _ _ 40 rfl rfl Tryz.underlying278 info_ver rfl (by decide) (by decide) rfl rfl HH.out.2.2.2.2.2.1.symm HR.out.1 HR.out.2 (by have := HH.out; simp; omega) ?_
           intro A3 c3 w3 hown3 hg3 hat3
           have hb3 : w3.heap[b]? = some _ := (hg3.block b (by have := hf1.size; omega) (by simp [Value.ownBlock])).trans (hf1.blk HH.out.2.2.1 (fun f => f))
           have k0 := blk_cell hb3 0; have z0 := blk_frozen hb3 0; simp at k0
           have hW : Fr No w w3 := hf1.grown hg3 (fun k hk => by simp [Value.ownBlock] at hk)
           have ho3 : Ow tVer 282 w3 (fun k => (F k ∧ k ≠ b) ∨ w.heap.size ≤ k) (.slice A3 ct.l.length c3) ct.l := by
             have := hown3; simp only [List.length_nil, Nat.zero_add, List.nil_append] at this
             exact this.mono fun k hk _ => hk.imp id fun h => by have := hf1.size; omega
           have H3 := Lib.hid (And.intro hb3 (And.intro hW ho3)); clear hb3 hW ho3 hown3 hg3 hat3))
      go_ret
      have h3 := H3.out
      have hc := HH.out
      rw [← hc.2.2.2.2.2.2] at h3
      have := chain_shut1 hc.1 lb hc.2.1 h3.1 h3.2.2 (h3.2.1.mono fun _ _ f => f.elim)
      exact ⟨rfl, this.1, this.2⟩
end Go.Proofs.YtlmhphejgahfbaaGreatDoor
