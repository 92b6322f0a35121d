/- Reference 12 (chain): Put, Trim. -/
import Derived.Test.YtehlfcdipoognaaRef12
import Derived.Test.YtehlfcdipoognaaChain4
import Derived.StillTailTactics
set_option linter.unusedVariables false
set_option linter.unusedSimpArgs false
namespace Go.Proofs.Ytehlfcdipoognaa
open Go.RowKit

theorem info_rver : (Try.prog.info? 108).map (fun i => (i.zero, i.size, i.bytes)) = some (some (.agg #[.int .i64 0, .slice none 0 0, .bool false]), 3, 40) := by kernel_rfl

/-- A chain as a value. -/
def ChnVal (w : World) (F : Nat → Prop) (v : Value) (c : Chn) : Prop := ∃ A cp, v = .agg #[.slice A c.l.length cp, .int .i64 c.last] ∧ c.l.length ≤ cp ∧ Rd tVer w F A c.l

set_option maxHeartbeats 1000000 in
theorem ref_cput {w : World} {F R : Nat → Prop} {A B : Option Addr} {cp cr : Nat} {c : Chn} {row : Bs} (n : Int) (g : Bool) (h : Rd tVer w F A c.l) (hl : c.l.length ≤ 1000000000) (hr : Rd Ty.u8 w R B row) (hrl : row.length ≤ 1000000000) (hn : c.last < n) :
    Calls Try.prog 37 #[.agg #[.slice A c.l.length cp, .int .i64 c.last], .int .i64 n, .slice B row.length cr, .bool g] w fun e w' =>
      ∃ v, e = .returned (.tuple #[v, .int .i64 0]) ∧ ChnVal w' (fun i => F i ∨ w.heap.size ≤ i) v (c.put n row g) ∧ Fr No w w' := by
  have hj := fun w' (f : Fr No w w') => ref_join (c := cr) (d := 0) (hr.fr0 f) (Rd.nil (t := Ty.u8) (w := w') (F := R) (A := none)) (by simp; omega)
  simp only [List.append_nil, List.length_nil] at hj
  obtain ⟨cs, hR, hA⟩ := ((h.mono fun i hi hl => (⟨hi, hl⟩ : F i ∧ i < w.heap.size)).fr0 (((Fr.refl No w).alloc (.cells #[.slice A c.l.length cp, .int .i64 c.last] 85)).alloc (.cells #[.slice none 0 0, .int .i64 0] 85))).at
  have hR' : Row tVer _ (fun i => ((F i ∧ i < w.heap.size) ∨ w.heap.size + 2 ≤ i) ∧ (Value.slice none 0 0).ownBlock ≠ some i) c.l cs := hR.mono fun i hi _ => ⟨.inl hi, fun e => by simp [Value.ownBlock] at e⟩
  have H := Lib.hid (And.intro hj (And.intro hR' hA))
  clear hj hR hR' hA h hr
  go_enter Try.func37, Try.ntmps37
  go_wp2_with (first
    | (at_builtin; refine ow_append tVer (Ow.nil (F := fun i => (F i ∧ i < w.heap.size) ∨ w.heap.size + 2 ≤ i)) _ _ (.agg #[.int .i64 0, .slice none 0 0, .bool false]) 40 rfl rfl Try.underlying83 info_rver rfl (by decide) (by decide) rfl rfl rfl H.out.2.1 H.out.2.2 (by simp; omega) ?_; intro A1 c1 w1 hown1 hg hat
       simp only [List.length_nil, Nat.zero_add, List.nil_append] at hown1 ⊢
       have hfa : Fr No ((w.alloc (.cells #[.slice A c.l.length cp, .int .i64 c.last] 85)).alloc (.cells #[.slice none 0 0, .int .i64 0] 85)) w1 := (Fr.refl No _).grown hg fun k hk => by simp [Value.ownBlock] at hk
       have hf1 : Fr No w w1 := (((Fr.refl No w).alloc _).alloc _).trans (hfa.mono fun _ _ f => f.elim)
       have hb1 : w1.heap[w.heap.size + 1]? = some (.cells #[.slice none 0 0, .int .i64 0] 85 (0, 0)) := hfa.blk (by have := heap_alloc_new (w.alloc (.cells #[.slice A c.l.length cp, .int .i64 c.last] 85)) (.cells #[.slice none 0 0, .int .i64 0] 85); rwa [World.size_alloc] at this) (fun f => f)
       have hne : ∀ k, (Value.slice A1 c.l.length c1).ownBlock = some k → w.heap.size + 2 ≤ k := by
         intro k hk
         simp only [List.length_nil, Nat.zero_add] at hat
         rw [hk] at hat
         rcases hat with hat | hat
         · simp [Value.ownBlock] at hat
         · simp at hat; omega
       have hs1 : w.heap.size + 2 ≤ w1.heap.size := by have := hfa.size; simpa using this
       have H1 := Lib.hid (And.intro hown1 (And.intro hf1 (And.intro hb1 (And.intro hne hs1))))
       clear hfa hb1 hne hs1
       clear hown1 hg hat hf1)
    | (go_at_call 21; refine (H.out.1 _ H1.out.2.1).mono ?_; rintro e w2 ⟨A2, c2, rfl, ho2, hf2⟩
       have H2 := Lib.hid (And.intro ho2 hf2)
       clear ho2 hf2)
    | (at_builtin; refine ow_append tVer (ys := [⟨n, row, g⟩]) ((H1.out.1.fr0 H2.out.2).fr0 ((Fr.refl No w2).alloc _)) _ _ (.agg #[.int .i64 0, .slice none 0 0, .bool false]) 40 rfl rfl Try.underlying83 info_rver rfl (by decide) (by decide) rfl rfl rfl
         (Row.single (tVer_mk (A := A2) (c := c2) H2.out.1.rd.2.1 ((H2.out.1.rd.2.2.fr0 ((Fr.refl No w2).alloc _)).mono fun i hi hl => ?qf))) (At.block (heap_alloc_new _ _)) (by simp; omega) ?_
       case qf => exact ⟨.inl (.inr (by have := H1.out.2.2.2.2; have hi' : w1.heap.size ≤ i := hi; omega)), fun he => by have := (H1.out.1.own he).2; have hi' : w1.heap.size ≤ i := hi; omega⟩
       intro A3 c3 w3 hown3 hg3 hat3
       have hb3 : w3.heap[w.heap.size + 1]? = some (.cells #[.slice none 0 0, .int .i64 0] 85 (0, 0)) := ((Fr.refl (fun k => some k = (Value.slice A1 c.l.length c1).ownBlock) _).grown hg3 fun k hk => .inl hk.symm).blk (((Fr.refl No w2).alloc _).blk (H2.out.2.blk H1.out.2.2.1 (fun f => f)) (fun f => f)) (fun e => by have := H1.out.2.2.2.1 _ e.symm; omega)
       have k0 := blk_cell hb3 0
       have k1 := blk_cell hb3 1
       have z0 := blk_frozen hb3 0
       have z1 := blk_frozen hb3 1
       simp at k0 k1
       have hf3 : Fr No w w3 := ((H1.out.2.1.trans (H2.out.2.mono fun _ _ f => f.elim)).alloc _).grown hg3 fun k hk => .inr (by
         have := H1.out.2.2.2.1 _ hk
         omega)
       have H3 := Lib.hid (And.intro hown3 (And.intro hf3 hb3))
       clear hf3 hb3
       clear hown3 hg3 hat3))
  obtain ⟨hown3, hf3, hb3⟩ := H3.out
  have hn0 : ¬ ((((F (w.heap.size + 1) ∧ w.heap.size + 1 < w.heap.size) ∨ w.heap.size + 2 ≤ w.heap.size + 1) ∨ ((w.alloc (.cells #[.slice A c.l.length cp, .int .i64 c.last] 85)).alloc (.cells #[.slice none 0 0, .int .i64 0] 85)).heap.size ≤ w.heap.size + 1) ∨ (w2.alloc (.cells #[.int .i64 n, .slice A2 row.length c2, .bool g] 108)).heap.size ≤ w.heap.size + 1) := by
    have := H2.out.2.size
    have := H1.out.2.2.2.2
    simp
    omega
  have hown4 := (hown3.set ⟨w.heap.size + 1, 0, none⟩ hn0 (.slice A3 (c.l.length + 1) c3)).set ⟨w.heap.size + 1, 1, none⟩ hn0 (.int .i64 n)
  have hb4 := blk_set (blk_set hb3 0 (.slice A3 (c.l.length + 1) c3)) 1 (.int .i64 n)
  have d0 := blk_cell hb4 0
  have d1 := blk_cell hb4 1
  simp at d0 d1
  refine bodyPost_ret (v := .tuple #[.agg #[.slice A3 (c.l.length + 1) c3, .int .i64 n], .int .i64 0]) (by simp [results, Try.results37, go_sem, d0, d1]) rfl ⟨_, rfl, ⟨A3, c3, ?_, ?_, ?_⟩, (hf3.set _ (.inr (by simp)) _).set _ (.inr (by simp)) _⟩
  · show _ = Value.agg #[.slice A3 (c.l ++ [_]).length c3, _]
    rw [List.length_append]; rfl
  · have := hown4.rd
    exact Nat.le_trans (Nat.le_of_eq this.1.symm) this.2.1
  · refine hown4.rd.2.2.mono fun i hi _ => ?_
    have := H2.out.2.size
    have := H1.out.2.2.2.2
    rcases hi with ((hi | hi) | hi) | hi
    · exact .inl hi.1
    · exact .inr (by omega)
    · exact .inr (by simp at hi; omega)
    · exact .inr (by simp at hi; omega)

set_option maxHeartbeats 1000000 in
set_option maxRecDepth 100000 in
theorem ref_ctrim {w : World} {F : Nat → Prop} {A : Option Addr} {cp : Nat} {c : Chn} (a : Int) (h : Rd tVer w F A c.l) (ho : c.Ok) (hl : c.l.length ≤ 1000000000) (hcp : c.l.length ≤ cp) :
    Calls Try.prog 42 #[.agg #[.slice A c.l.length cp, .int .i64 c.last], .int .i64 a] w fun e w' => ∃ v, e = .returned (.tuple #[v, .int .i64 (c.cut a)]) ∧ ChnVal w' F v (c.trim a) ∧ Fr No w w' := by
  have hle := seen_le c a
  have hs := fun w' (f : Fr No w w') => ref_seen (w := w') (cp := cp) a (h.fr0 f) ho hl
  have hlI : (c.l.length : Int) ≤ 1000000000 := by omega
  by_cases h0 : c.seen a = 0
  · have hc0 := cut_none h0
    have hH := Lib.hid (And.intro hs (And.intro h hcp))
    clear hs h ho hcp
    go_enter Try.func42, Try.ntmps42
    go_wp2_with (go_at_call 52; refine (hH.out.1 _ (((Fr.refl No w).alloc _).alloc _)).mono ?_; rintro e w1 ⟨rfl, hf⟩; rw [h0]
                 have hA0 := hf.blk (blk_two1 w (.cells #[.slice A c.l.length cp, .int .i64 c.last] 85) (.cells #[.slice none 0 0, .int .i64 0] 85)) (fun f => f)
                 have hb := hf.blk (blk_two2 w (.cells #[.slice A c.l.length cp, .int .i64 c.last] 85) (.cells #[.slice none 0 0, .int .i64 0] 85)) (fun f => f)
                 have b0 := blk_cell hA0 0
                 have b1 := blk_cell hA0 1
                 have k0 := blk_cell hb 0
                 have k1 := blk_cell hb 1
                 have z0 := blk_frozen hb 0
                 have z1 := blk_frozen hb 1
                 simp at b0 b1 k0 k1
                 have H1 := Lib.hid (And.intro hf hb); clear hf hb hA0)
    have hf := H1.out.1
    have hb4 := blk_set (blk_set H1.out.2 0 (.slice A c.l.length cp)) 1 (.int .i64 c.last)
    have d0 := blk_cell hb4 0
    have d1 := blk_cell hb4 1
    simp at d0 d1
    have hfw : Fr No w w1 := (((Fr.refl No w).alloc _).alloc _).trans (hf.mono fun _ _ f => f.elim)
    have hr := (((hH.out.2.1.mono fun i hi hl => (⟨hi, hl⟩ : F i ∧ i < w.heap.size)).fr0 hfw).set2 ⟨w.heap.size + 1, 0, none⟩ (fun h => absurd h.2 (by simp)) (.slice A c.l.length cp)).set2 ⟨w.heap.size + 1, 1, none⟩ (fun h => absurd h.2 (by simp)) (.int .i64 c.last)
    refine bodyPost_ret (v := .tuple #[.agg #[.slice A c.l.length cp, .int .i64 c.last], .int .i64 0]) (by simp [results, Try.results42, go_sem, d0, d1]) rfl ⟨_, by rw [hc0]; rfl, ⟨A, cp, ?_, ?_, ?_⟩, (hfw.set _ (.inr (by simp)) _).set _ (.inr (by simp)) _⟩
    · unfold Chn.trim; rw [hc0]; rfl
    · unfold Chn.trim; rw [hc0]; exact hH.out.2.2
    · unfold Chn.trim; rw [hc0]; exact hr.mono fun i hi _ => hi.1
  · obtain ⟨i, hie⟩ : ∃ i, c.seen a = i + 1 := ⟨c.seen a - 1, by omega⟩
    have hi : i < c.l.length := by omega
    have hcut := cut_at hie hi
    obtain ⟨g, hg⟩ : ∃ g, c.l[i].gone = g := ⟨_, rfl⟩
    rw [hg] at hcut
    obtain ⟨k, hk⟩ : ∃ k, c.cut a = k := ⟨_, rfl⟩
    have hkg : k = if g = true then i + 1 else i := by rw [← hk, hcut]
    have hkl : k ≤ c.l.length := by rw [hkg]; split <;> omega
    obtain ⟨A', hrun, hrd⟩ := cut_lo (P := Try.prog) tVer 83 108 .i64 Try.underlying83 (by have := info_rver; obtain ⟨i0, h1, h2⟩ := Option.map_eq_some_iff.1 this; rw [h1]; simp only [Option.map_some]; simp only [Prod.mk.injEq] at h2; rw [h2.2.1]; rfl) A c.l.length cp k hkl hcp
    have htr : c.trim a = ⟨c.l.drop k, c.last⟩ := by unfold Chn.trim; rw [hk]
    have H1 : ∀ w1, Fr No w w1 → ∃ ad, A = some ad ∧ w1.cell? ⟨(ad.add (i * 3)).block, (ad.add (i * 3)).off + 2, none⟩ = some (.bool g) := by
      intro w1 f
      obtain ⟨ad, A', c', e, _, _, h2, _⟩ := ver_at (h.fr0 f) hi
      exact ⟨ad, e, by rw [← hg]; exact h2⟩
    have hi0 : (0 : Int) ≤ (i : Int) := Int.natCast_nonneg _
    have hi1 : (i : Int) < (c.l.length : Int) := by omega
    have hi2 : ((i + 1 : Nat) : Int) - 1 = (i : Int) := by omega
    have hrd' := hrd w (fun i => F i ∧ i < w.heap.size) c.l rfl (h.mono fun i hi hl => (⟨hi, hl⟩ : F i ∧ i < w.heap.size))
    have hdl : (c.l.drop k).length = c.l.length - k := List.length_drop
    have hH := Lib.hid (And.intro hs (And.intro H1 (And.intro hrd' hcp)))
    rw [htr, hk]
    clear hs h ho hcp H1 hrd hrd' hcut hk htr hg
    have last : ∀ w1 (W : World), Fr No w w1 → w1.heap[w.heap.size + 1]? = some (.cells #[.slice none 0 0, .int .i64 0] 85 (0, 0)) → W = ((w1.setCell ⟨w.heap.size + 1, 0, none⟩ (.slice A' (c.l.length - k) (cp - k))).setCell ⟨w.heap.size + 1, 1, none⟩ (.int .i64 c.last)).drew →
        W.cell? ⟨w.heap.size + 1, 0, none⟩ = some (.slice A' (c.l.length - k) (cp - k)) ∧ W.cell? ⟨w.heap.size + 1, 1, none⟩ = some (.int .i64 c.last) ∧ ChnVal W F (.agg #[.slice A' (c.l.length - k) (cp - k), .int .i64 c.last]) ⟨c.l.drop k, c.last⟩ ∧ Fr No w W := by
      rintro w1 W hf hb rfl
      have hb4 := blk_set (blk_set hb 0 (.slice A' (c.l.length - k) (cp - k))) 1 (.int .i64 c.last)
      have d0 := blk_cell hb4 0
      have d1 := blk_cell hb4 1
      simp at d0 d1
      refine ⟨d0, d1, ⟨A', cp - k, by rw [hdl], by have := hH.out.2.2.2; simp; omega, ?_⟩, ((hf.set _ (.inr (by simp)) _).set _ (.inr (by simp)) _).drew⟩
      exact ((((hH.out.2.2.1.fr0 hf).set2 ⟨w.heap.size + 1, 0, none⟩ (fun h => absurd h.2 (by simp)) _).set2 ⟨w.heap.size + 1, 1, none⟩ (fun h => absurd h.2 (by simp)) _).fr0 ((Fr.refl No _).drew)).mono fun i hi _ => hi.1
    have LAST := Lib.hid last
    clear last hdl
    generalize c.l.length = n at *
    cases g
    · obtain rfl : k = i := by simpa using hkg
      clear hkg
      go_enter Try.func42, Try.ntmps42
      go_wp2_with (go_at_call 52; refine (hH.out.1 _ (((Fr.refl No w).alloc _).alloc _)).mono ?_; rintro e w1 ⟨rfl, hf⟩; rw [hie, hi2]
                   have hA0 := hf.blk (blk_two1 w (.cells #[.slice A n cp, .int .i64 c.last] 85) (.cells #[.slice none 0 0, .int .i64 0] 85)) (fun f => f)
                   have hb := hf.blk (blk_two2 w (.cells #[.slice A n cp, .int .i64 c.last] 85) (.cells #[.slice none 0 0, .int .i64 0] 85)) (fun f => f)
                   have b0 := blk_cell hA0 0
                   have b1 := blk_cell hA0 1
                   have k0 := blk_cell hb 0
                   have k1 := blk_cell hb 1
                   have z0 := blk_frozen hb 0
                   have z1 := blk_frozen hb 1
                   simp at b0 b1 k0 k1
                   have hfw : Fr No w w1 := (((Fr.refl No w).alloc _).alloc _).trans (hf.mono fun _ _ f => f.elim)
                   obtain ⟨ad, rfl, x2⟩ := hH.out.2.1 w1 hfw
                   have H1 := Lib.hid (And.intro hfw hb); clear hf hb hA0 hfw)
      go_region
      obtain ⟨W, hW⟩ : ∃ W, W = ((w1.setCell ⟨w.heap.size + 1, 0, none⟩ (.slice A' (n - k) (cp - k))).setCell ⟨w.heap.size + 1, 1, none⟩ (.int .i64 c.last)).drew := ⟨_, rfl⟩
      obtain ⟨d0, d1, hv, hfr⟩ := LAST.out w1 W H1.out.1 H1.out.2 hW
      rw [← hW]
      go_wp2
      exact bodyPost_ret (v := .tuple #[.agg #[.slice A' (n - k) (cp - k), .int .i64 c.last], .int .i64 k]) (by simp [results, Try.results42, go_sem, d0, d1]) rfl ⟨_, rfl, hv, hfr⟩
    · obtain rfl : k = i + 1 := by simpa using hkg
      clear hkg
      have hrun' : ∀ W, Sem.run Try.prog (Instr.slice 83 (.slice A n cp) (some (.int .i64 ((i : Int) + 1))) none none) W = .ok (.slice A' (n - (i + 1)) (cp - (i + 1))) W := hrun
      clear hrun
      have hn2 : (n : Int) ≤ 1000000000 := by omega
      go_enter Try.func42, Try.ntmps42
      go_wp2_with (go_at_call 52; refine (hH.out.1 _ (((Fr.refl No w).alloc _).alloc _)).mono ?_; rintro e w1 ⟨rfl, hf⟩; rw [hie, hi2]
                   have hA0 := hf.blk (blk_two1 w (.cells #[.slice A n cp, .int .i64 c.last] 85) (.cells #[.slice none 0 0, .int .i64 0] 85)) (fun f => f)
                   have hb := hf.blk (blk_two2 w (.cells #[.slice A n cp, .int .i64 c.last] 85) (.cells #[.slice none 0 0, .int .i64 0] 85)) (fun f => f)
                   have b0 := blk_cell hA0 0
                   have b1 := blk_cell hA0 1
                   have k0 := blk_cell hb 0
                   have k1 := blk_cell hb 1
                   have z0 := blk_frozen hb 0
                   have z1 := blk_frozen hb 1
                   simp at b0 b1 k0 k1
                   have hfw : Fr No w w1 := (((Fr.refl No w).alloc _).alloc _).trans (hf.mono fun _ _ f => f.elim)
                   obtain ⟨ad, rfl, x2⟩ := hH.out.2.1 w1 hfw
                   have H1 := Lib.hid (And.intro hfw hb); clear hf hb hA0 hfw)
      go_region
      obtain ⟨W, hW⟩ : ∃ W, W = ((w1.setCell ⟨w.heap.size + 1, 0, none⟩ (.slice A' (n - (i + 1)) (cp - (i + 1)))).setCell ⟨w.heap.size + 1, 1, none⟩ (.int .i64 c.last)).drew := ⟨_, rfl⟩
      obtain ⟨d0, d1, hv, hfr⟩ := LAST.out w1 W H1.out.1 H1.out.2 hW
      rw [← hW]
      go_wp2
      exact bodyPost_ret (v := .tuple #[.agg #[.slice A' (n - (i + 1)) (cp - (i + 1)), .int .i64 c.last], .int .i64 ((i : Int) + 1)]) (by simp [results, Try.results42, go_sem, d0, d1]) rfl ⟨_, rfl, hv, hfr⟩
end Go.Proofs.Ytehlfcdipoognaa
