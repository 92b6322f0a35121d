/- Reference 12 (chain): Put, Trim. -/
import Derived.Test.YtkcppngopdiljaaRef12
import Derived.Test.YtkcppngopdiljaaChain4
import Derived.StillTailTactics
set_option linter.unusedVariables false
set_option linter.unusedSimpArgs false
namespace Go.Proofs.Ytkcppngopdiljaa
open Go.RowKit

theorem info_rver : (Try.prog.info? 140).map (fun i => (i.zero, i.size, i.bytes)) = some (some (.agg #[.int .i64 0, .slice none 0 0, .bool false]), 3, 40) := by kernel_rfl

/-- A chain as a value. -/
def ChnVal (w : World) (F : Nat → Prop) (v : Value) (c : Chn) : Prop := ∃ A cp, v = .agg #[.slice A c.l.length cp, .int .i64 c.last] ∧ c.l.length ≤ cp ∧ Rd tVer w F A c.l

set_option maxHeartbeats 1000000 in
theorem ref_cput {w : World} {F R : Nat → Prop} {A B : Option Addr} {cp cr : Nat} {c : Chn} {row : Bs} (n : Int) (g : Bool) (h : Rd tVer w F A c.l) (hl : c.l.length ≤ 1000000000) (hr : Rd Ty.u8 w R B row) (hrl : row.length ≤ 1000000000) (hn : c.last < n) :
    Calls Try.prog 62 #[.agg #[.slice A c.l.length cp, .int .i64 c.last], .int .i64 n, .slice B row.length cr, .bool g] w fun e w' =>
      ∃ v, e = .returned (.tuple #[v, .int .i64 0]) ∧ ChnVal w' (fun i => F i ∨ w.heap.size ≤ i) v (c.put n row g) ∧ Fr No w w' := by
  have hj := fun w' (f : Fr No w w') => ref_join (c := cr) (d := 0) (hr.fr0 f) (Rd.nil (t := Ty.u8) (w := w') (F := R) (A := none)) (by simp; omega)
  simp only [List.append_nil, List.length_nil] at hj
  obtain ⟨cs, hR, hA⟩ := ((h.mono fun i hi hl => (⟨hi, hl⟩ : F i ∧ i < w.heap.size)).fr0 (((Fr.refl No w).alloc (.cells #[.slice A c.l.length cp, .int .i64 c.last] 119)).alloc (.cells #[.slice none 0 0, .int .i64 0] 119))).at
  have hR' : Row tVer _ (fun i => ((F i ∧ i < w.heap.size) ∨ w.heap.size + 2 ≤ i) ∧ (Value.slice none 0 0).ownBlock ≠ some i) c.l cs := hR.mono fun i hi _ => ⟨.inl hi, fun e => by simp [Value.ownBlock] at e⟩
  have H := Lib.hid (And.intro hj (And.intro hR' hA))
  clear hj hR hR' hA h hr
  go_enter Try.func62, Try.ntmps62
  go_wp2_with (first
    | (at_builtin; refine ow_append tVer (Ow.nil (F := fun i => (F i ∧ i < w.heap.size) ∨ w.heap.size + 2 ≤ i)) _ _ (.agg #[.int .i64 0, .slice none 0 0, .bool false]) 40 rfl rfl Try.underlying117 info_rver rfl (by decide) (by decide) rfl rfl rfl H.out.2.1 H.out.2.2 (by simp; omega) ?_; intro A1 c1 w1 hown1 hg hat
       simp only [List.length_nil, Nat.zero_add, List.nil_append] at hown1 ⊢
       have hfa : Fr No ((w.alloc (.cells #[.slice A c.l.length cp, .int .i64 c.last] 119)).alloc (.cells #[.slice none 0 0, .int .i64 0] 119)) w1 := (Fr.refl No _).grown hg fun k hk => by simp [Value.ownBlock] at hk
       have hf1 : Fr No w w1 := (((Fr.refl No w).alloc _).alloc _).trans (hfa.mono fun _ _ f => f.elim)
       have hb1 : w1.heap[w.heap.size + 1]? = some (.cells #[.slice none 0 0, .int .i64 0] 119 (0, 0)) := hfa.blk (by have := heap_alloc_new (w.alloc (.cells #[.slice A c.l.length cp, .int .i64 c.last] 119)) (.cells #[.slice none 0 0, .int .i64 0] 119); rwa [World.size_alloc] at this) (fun f => f)
       have hne : ∀ k, (Value.slice A1 c.l.length c1).ownBlock = some k → w.heap.size + 2 ≤ k := by
         intro k hk
         simp only [List.length_nil, Nat.zero_add] at hat
         rw [hk] at hat
         rcases hat with hat | hat
         · simp [Value.ownBlock] at hat
         · simp at hat; omega
       have hs1 : w.heap.size + 2 ≤ w1.heap.size := by have := hfa.size; simpa using this
       have H1 := Lib.hid (And.intro hown1 (And.intro hf1 (And.intro hb1 (And.intro hne hs1))))
       clear hfa hb1 hne hs1
       clear hown1 hg hat hf1)
    | (go_at_call 25; refine (H.out.1 _ H1.out.2.1).mono ?_; rintro e w2 ⟨A2, c2, rfl, ho2, hf2⟩
       have H2 := Lib.hid (And.intro ho2 hf2)
       clear ho2 hf2)
    | (at_builtin; refine ow_append tVer (ys := [⟨n, row, g⟩]) ((H1.out.1.fr0 H2.out.2).fr0 ((Fr.refl No w2).alloc _)) _ _ (.agg #[.int .i64 0, .slice none 0 0, .bool false]) 40 rfl rfl Try.underlying117 info_rver rfl (by decide) (by decide) rfl rfl rfl
         (Row.single (tVer_mk (A := A2) (c := c2) H2.out.1.rd.2.1 ((H2.out.1.rd.2.2.fr0 ((Fr.refl No w2).alloc _)).mono fun i hi hl => ?qf))) (At.block (heap_alloc_new _ _)) (by simp; omega) ?_
       case qf => exact ⟨.inl (.inr (by have := H1.out.2.2.2.2; have hi' : w1.heap.size ≤ i := hi; omega)), fun he => by have := (H1.out.1.own he).2; have hi' : w1.heap.size ≤ i := hi; omega⟩
       intro A3 c3 w3 hown3 hg3 hat3
       have hb3 : w3.heap[w.heap.size + 1]? = some (.cells #[.slice none 0 0, .int .i64 0] 119 (0, 0)) := ((Fr.refl (fun k => some k = (Value.slice A1 c.l.length c1).ownBlock) _).grown hg3 fun k hk => .inl hk.symm).blk (((Fr.refl No w2).alloc _).blk (H2.out.2.blk H1.out.2.2.1 (fun f => f)) (fun f => f)) (fun e => by have := H1.out.2.2.2.1 _ e.symm; omega)
       have k0 := blk_cell hb3 0
       have k1 := blk_cell hb3 1
       have z0 := blk_frozen hb3 0
       have z1 := blk_frozen hb3 1
       simp at k0 k1
       have hf3 : Fr No w w3 := ((H1.out.2.1.trans (H2.out.2.mono fun _ _ f => f.elim)).alloc _).grown hg3 fun k hk => .inr (by
         have := H1.out.2.2.2.1 _ hk
         omega)
       have H3 := Lib.hid (And.intro hown3 (And.intro hf3 hb3))
       clear hf3 hb3
       clear hown3 hg3 hat3))
  obtain ⟨hown3, hf3, hb3⟩ := H3.out
  have hn0 : ¬ ((((F (w.heap.size + 1) ∧ w.heap.size + 1 < w.heap.size) ∨ w.heap.size + 2 ≤ w.heap.size + 1) ∨ ((w.alloc (.cells #[.slice A c.l.length cp, .int .i64 c.last] 119)).alloc (.cells #[.slice none 0 0, .int .i64 0] 119)).heap.size ≤ w.heap.size + 1) ∨ (w2.alloc (.cells #[.int .i64 n, .slice A2 row.length c2, .bool g] 140)).heap.size ≤ w.heap.size + 1) := by
    have := H2.out.2.size
    have := H1.out.2.2.2.2
    simp
    omega
  have hown4 := (hown3.set ⟨w.heap.size + 1, 0, none⟩ hn0 (.slice A3 (c.l.length + 1) c3)).set ⟨w.heap.size + 1, 1, none⟩ hn0 (.int .i64 n)
  have hb4 := blk_set (blk_set hb3 0 (.slice A3 (c.l.length + 1) c3)) 1 (.int .i64 n)
  have d0 := blk_cell hb4 0
  have d1 := blk_cell hb4 1
  simp at d0 d1
  refine bodyPost_ret (v := .tuple #[.agg #[.slice A3 (c.l.length + 1) c3, .int .i64 n], .int .i64 0]) (by simp [results, Try.results62, go_sem, d0, d1]) rfl ⟨_, rfl, ⟨A3, c3, ?_, ?_, ?_⟩, (hf3.set _ (.inr (by simp)) _).set _ (.inr (by simp)) _⟩
  · show _ = Value.agg #[.slice A3 (c.l ++ [_]).length c3, _]
    rw [List.length_append]; rfl
  · have := hown4.rd
    exact Nat.le_trans (Nat.le_of_eq this.1.symm) this.2.1
  · refine hown4.rd.2.2.mono fun i hi _ => ?_
    have := H2.out.2.size
    have := H1.out.2.2.2.2
    rcases hi with ((hi | hi) | hi) | hi
    · exact .inl hi.1
    · exact .inr (by omega)
    · exact .inr (by simp at hi; omega)
    · exact .inr (by simp at hi; omega)

end Go.Proofs.Ytkcppngopdiljaa
