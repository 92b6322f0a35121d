/- Layer 12 (chain), third part: Trim. -/
import Derived.Test.YtehlfcdipoognaaChain3
set_option linter.unusedVariables false
set_option linter.unusedSimpArgs false
namespace Go.Proofs.Ytehlfcdipoognaa
open Go.RowKit

theorem Chn.ok_trim {c : Chn} (h : c.Ok) (a : Int) : (c.trim a).Ok :=
  ⟨h.1.sublist (List.drop_sublist _ _), fun v hv => h.2 v (List.mem_of_mem_drop hv)⟩

theorem chain_shut1 {w w3 : World} {F : Nat → Prop} {b : Nat} {c : Chn} {v v3 : Value} (hf : F b) (lb : b < w.heap.size) (ho : c.Ok) (hb : w3.heap[b]? = some (.cells #[v, .int .i64 c.last] 103 (0, 0)))
    (hw : Ow tVer 106 w3 (fun k => (F k ∧ k ≠ b) ∨ w.heap.size ≤ k) v3 c.l) (hW : Fr F w w3) :
    ChainAt (w3.setCell ⟨b, 0, none⟩ v3) (fun k => F k ∨ w.heap.size ≤ k) b c ∧ Fr F w (w3.setCell ⟨b, 0, none⟩ v3) := by
  refine ⟨⟨.inl hf, ho, v3, by simpa using blk_set hb 0 v3, ?_⟩, hW.set _ (.inl hf) _⟩
  have hn : ¬ ((F b ∧ b ≠ b) ∨ w.heap.size ≤ b) := by rintro (⟨_, h⟩ | h); exact h rfl; omega
  refine (hw.set _ hn _).mono fun k hk _ => ?_
  rcases hk with hk | hk
  · exact ⟨.inl hk.1, hk.2⟩
  · exact ⟨.inr hk, by omega⟩

set_option maxHeartbeats 1000000 in
theorem chain_trim {w : World} {F : Nat → Prop} {b : Nat} {c : Chn} {a : Int} (h : ChainAt w F b c) (hl : c.l.length ≤ 1000000000) :
    Calls Try.prog 43 #[.pointer (some ⟨b, 0, none⟩), .int .i64 a] w fun e w' =>
      e = .returned (.int .i64 (c.cut a)) ∧ ChainAt w' (fun k => F k ∨ w.heap.size ≤ k) b (c.trim a) ∧ Fr F w w' := by
  have hle := seen_le c a
  have hs := chain_seen (a := a) h hl
  by_cases h0 : c.seen a = 0
  · have hg : c.cut a = 0 := by unfold Chn.cut; split <;> simp [h0]
    have ht : c.trim a = c := by unfold Chn.trim; rw [hg]; rfl
    rw [ht, hg]
    rw [h0] at hs
    have HS := Lib.hid (And.intro hs h)
    clear hs hle h0 hg ht h
    go_enter Try.func43, Try.ntmps43
    go_wp2_with (go_at_call 51; refine HS.out.1.mono ?_; rintro e w' ⟨rfl, hf⟩)
    go_ret
    exact ⟨rfl, (HS.out.2.fr0 hf).mono fun k hk _ => .inl hk, hf.mono fun _ _ f => f.elim⟩
  · obtain ⟨i, hie⟩ : ∃ i, c.seen a = i + 1 := ⟨c.seen a - 1, by omega⟩
    have hi : i < c.l.length := by omega
    have hcut : c.cut a = if c.l[i].gone then i + 1 else i := by
      unfold Chn.cut
      rw [hie]
      simp [hi]
    obtain ⟨g, hgg⟩ : ∃ g, c.l[i].gone = g := ⟨_, rfl⟩
    rw [hgg] at hcut
    obtain ⟨hf, ho, v, hb, hw⟩ := h
    have ho' := Chn.ok_trim ho a
    obtain ⟨A, cp, rfl, hcp, hrd⟩ := hw.slice
    have c0 := blk_cell hb 0
    have lb := blk_lt hb
    simp at c0
    rw [hie] at hs
    obtain ⟨k, hk⟩ : ∃ k, c.cut a = k := ⟨_, rfl⟩
    have hkn : k ≤ c.l.length := by rw [← hk, hcut]; split <;> omega
    obtain ⟨A', hrun, hA'⟩ := cut_lo tVer 101 106 .i64 Try.underlying101 (by kernel_rfl : (Try.prog.info? 106).map (·.size) = some 3) A c.l.length cp k hkn hcp
    have hrd' : Rd tVer w (fun k => F k ∧ k ≠ b) A' (c.trim a).l := by
      have := hA' w _ c.l rfl hrd
      unfold Chn.trim
      rw [hk]
      exact this
    have hlen : (c.trim a).l.length = c.l.length - k := by unfold Chn.trim; simp [hk]
    have h1 : ∀ w1, Fr No w w1 → ∃ ad, A = some ad ∧ w1.cell? ⟨(ad.add (i * 3)).block, (ad.add (i * 3)).off + 2, none⟩ = some (.bool g) ∧ w1.cell? ⟨b, 0, none⟩ = some (.slice A c.l.length cp) := by
      intro w1 f
      obtain ⟨ad, cs, e, hk, e0, e1⟩ := (hrd.fr0 f).get' hi (by decide)
      obtain ⟨A', c', rfl, _, hq⟩ := tVer_open hk
      exact ⟨ad, e, by rw [← hgg]; exact e1 2 _ (by decide) rfl, (f.to_below.cell (p := ⟨b, 0, none⟩) lb).trans c0⟩
    have hlast : (c.trim a).last = c.last := rfl
    have HS := Lib.hid hs
    have H1 := Lib.hid h1
    clear h1
    have HH := Lib.hid (And.intro hf (And.intro ho' (And.intro hb (And.intro hw (And.intro hrd' (And.intro hlen hlast))))))
    have hi0 : (0 : Int) ≤ (i : Int) := Int.natCast_nonneg _
    have hi1 : (i : Int) < (c.l.length : Int) := by omega
    rw [hk]
    clear hs hb hw ho hle h0 hf hrd ho' hrd' hA' hie hlen hlast hgg
    have hkg : k = if g = true then i + 1 else i := by rw [← hk, hcut]
    clear hk hcut hi
    generalize c.trim a = ct at *
    generalize c.l.length = n at *
    have arm : ∀ w1, Fr No w w1 → ∃ cs, Row tVer w1 (fun i_ => ((F i_ ∧ i_ ≠ b) ∧ (Value.slice none 0 0).ownBlock ≠ some i_)) ct.l cs ∧ At w1 A' cs := by
      intro w1 f
      obtain ⟨cs, h1, h2⟩ := (HH.out.2.2.2.2.1.fr0 f).at
      exact ⟨cs, h1.mono fun k hk _ => ⟨hk, by simp [Value.ownBlock]⟩, h2⟩
    have ARM := Lib.hid arm
    clear arm
    cases g
    · obtain rfl : k = i := by simpa using hkg
      clear hkg
      go_enter Try.func43, Try.ntmps43
      go_wp2_with (first
        | (go_at_call 51; refine HS.out.mono ?_; rintro e w1 ⟨rfl, hf1⟩; obtain ⟨ad, rfl, x2, xb⟩ := H1.out w1 hf1; obtain ⟨cs, hR, hAt⟩ := ARM.out w1 hf1; have HR := Lib.hid (And.intro hR hAt); clear hR hAt)
        | (at_builtin; refine ow_append tVer (F := fun k => F k ∧ k ≠ b) (Ow.nil) _ _ _ 40 rfl rfl Try.underlying101 info_ver rfl (by decide) (by decide) rfl rfl HH.out.2.2.2.2.2.1.symm HR.out.1 HR.out.2 (by have := HH.out; simp; omega) ?_
           intro A3 c3 w3 hown3 hg3 hat3
           have hb3 : w3.heap[b]? = some _ := (hg3.block b (by have := hf1.size; omega) (by simp [Value.ownBlock])).trans (hf1.blk HH.out.2.2.1 (fun f => f))
           have k0 := blk_cell hb3 0; have z0 := blk_frozen hb3 0; simp at k0
           have hW : Fr No w w3 := hf1.grown hg3 (fun k hk => by simp [Value.ownBlock] at hk)
           have ho3 : Ow tVer 106 w3 (fun k => (F k ∧ k ≠ b) ∨ w.heap.size ≤ k) (.slice A3 ct.l.length c3) ct.l := by
             have := hown3; simp only [List.length_nil, Nat.zero_add, List.nil_append] at this
             exact this.mono fun k hk _ => hk.imp id fun h => by have := hf1.size; omega
           have H3 := Lib.hid (And.intro hb3 (And.intro hW ho3)); clear hb3 hW ho3 hown3 hg3 hat3))
      go_ret
      have h3 := H3.out
      have hc := HH.out
      rw [← hc.2.2.2.2.2.2] at h3
      have := chain_shut1 hc.1 lb hc.2.1 h3.1 h3.2.2 (h3.2.1.mono fun _ _ f => f.elim)
      exact ⟨rfl, this.1, this.2⟩
    · obtain rfl : k = i + 1 := by simpa using hkg
      clear hkg
      have hrun' : ∀ W, Sem.run Try.prog (Instr.slice 101 (.slice A n cp) (some (.int .i64 ((i : Int) + 1))) none none) W = .ok (.slice A' (n - (i + 1)) (cp - (i + 1))) W := hrun
      clear hrun
      have hn2 : (n : Int) ≤ 1000000000 := by omega
      go_enter Try.func43, Try.ntmps43
      go_wp2_with (first
        | (go_at_call 51; refine HS.out.mono ?_; rintro e w1 ⟨rfl, hf1⟩; obtain ⟨ad, rfl, x2, xb⟩ := H1.out w1 hf1; obtain ⟨cs, hR, hAt⟩ := ARM.out w1 hf1; have HR := Lib.hid (And.intro hR hAt); clear hR hAt)
        | (at_builtin; refine ow_append tVer (F := fun k => F k ∧ k ≠ b) (Ow.nil) _ _ _ 40 rfl rfl Try.underlying101 info_ver rfl (by decide) (by decide) rfl rfl HH.out.2.2.2.2.2.1.symm HR.out.1 HR.out.2 (by have := HH.out; simp; omega) ?_
           intro A3 c3 w3 hown3 hg3 hat3
           have hb3 : w3.heap[b]? = some _ := (hg3.block b (by have := hf1.size; omega) (by simp [Value.ownBlock])).trans (hf1.blk HH.out.2.2.1 (fun f => f))
           have k0 := blk_cell hb3 0; have z0 := blk_frozen hb3 0; simp at k0
           have hW : Fr No w w3 := hf1.grown hg3 (fun k hk => by simp [Value.ownBlock] at hk)
           have ho3 : Ow tVer 106 w3 (fun k => (F k ∧ k ≠ b) ∨ w.heap.size ≤ k) (.slice A3 ct.l.length c3) ct.l := by
             have := hown3; simp only [List.length_nil, Nat.zero_add, List.nil_append] at this
             exact this.mono fun k hk _ => hk.imp id fun h => by have := hf1.size; omega
           have H3 := Lib.hid (And.intro hb3 (And.intro hW ho3)); clear hb3 hW ho3 hown3 hg3 hat3))
      go_ret
      have h3 := H3.out
      have hc := HH.out
      rw [← hc.2.2.2.2.2.2] at h3
      have := chain_shut1 hc.1 lb hc.2.1 h3.1 h3.2.2 (h3.2.1.mono fun _ _ f => f.elim)
      exact ⟨rfl, this.1, this.2⟩
end Go.Proofs.Ytehlfcdipoognaa
