/- Texts of this claim, one behind the other: Tab. -/
import Derived.Test.YtlmhphejgahfbaaGreatDoorMrowledgernil5
import Derived.Test.YtlmhphejgahfbaaGreatDoorMrowledgernil9
/- Tables: kinds of data; the reference's Tables of nothing. -/
set_option linter.unusedVariables false
set_option linter.unusedSimpArgs false
namespace Go.Proofs.YtlmhphejgahfbaaGreatDoor
open Go.RowKit

theorem Fr.next {F G : Nat → Prop} {a b c : World} (h : Fr F a b) (k : Fr G b c) (hk : ∀ i, i < a.heap.size → G i → F i) : Fr F a c :=
  ⟨k.os.trans h.os, k.tape.trans h.tape, k.output.trans h.output, Nat.le_trans h.size k.size, fun i hi hn => (k.block i (Nat.lt_of_lt_of_le hi h.size) (fun g => hn (hk i hi g))).trans (h.block i hi hn)⟩
/-- A text of one byte. -/
def one (b : UInt8) : ByteArray := ⟨#[b]⟩
abbrev Col := ByteArray × UInt8 × Bool
abbrev tCol : Ty Col := Ty.pair Ty.str (Ty.pair Ty.u8 Ty.bool)
abbrev Tab := ByteArray × List Col × Int
abbrev tTab : Ty Tab := Ty.pair Ty.str (Ty.pair (Ty.slice tCol) (Ty.int .i64))
theorem info_tab : (Tryz.prog.info? 54).map (fun i => (i.zero, i.size, i.bytes)) = some (some (.agg #[.string ⟨#[]⟩, .slice none 0 0, .int .i64 0]), 3, 48) := by kernel_rfl
def two (a b : UInt8) : ByteArray := ⟨#[a, b]⟩
theorem run_two_at (w' : World) (g : Nat) (a b : UInt8) {x y : Int} (hx : x = (a.toNat : Int)) (hy : y = (b.toNat : Int)) (hb : w'.heap[g]? = some (.cells #[.int .u8 x, .int .u8 y] 5 (0, 0))) : (convert 46 9 (.slice (some ⟨g, 0, none⟩) 2 2)).run Tryz.prog w' = .ok (.string (two a b)) w' := by
  subst hx hy
  have hrd : Rd Ty.u8 w' (fun _ => True) (some ⟨g, 0, none⟩) [a, b] := ⟨by simp, _, row_bytes [a, b], fun j v hv => ⟨_, rfl, trivial, by rw [add0, blk_cell hb, ← Array.getElem?_toList]; exact hv⟩⟩
  exact run_str (c := 2) (n := 2) hrd rfl
/-- The first table of Tables(nil). -/
def tab0 : Tab := (two 116 48, [(one 97, 1, false)], 1)

set_option maxHeartbeats 600000 in
set_option maxRecDepth 100000 in
theorem tables_nil_ow {w : World} : Calls Tryz.prog 9 #[.slice none 0 0] w fun e w' => ∃ A c, e = .returned (.slice A 1 c) ∧ Ow tTab 54 w' (fun i => w.heap.size ≤ i) (.slice A 1 c) [tab0] ∧ Fr No w w' := by
  have hw := Lib.hid (Fr.refl No w)
  have hconv : (convert 46 9 (.slice (some ⟨w.heap.size + 1, 0, none⟩) 2 2)).run Tryz.prog ((w.alloc (.cells #[.slice none 0 0, .int .u8 0] 89)).alloc (.cells #[.int .u8 116, .int .u8 48] 5)) = .ok (.string (two 116 48)) _ := run_two_at _ _ 116 48 (x := 116) (y := 48) rfl rfl (blk_two2 _ _ _)
  go_enter Tryz.func9, Tryz.ntmps9
  go_wp2_with fail
  refine wp_loop_rounds 2 ?_
  rw [rounds_succ]
  go_wp2_with fail
  obtain ⟨W, hW⟩ : ∃ W, W = ((((w.alloc (.cells #[.slice none 0 0, .int .u8 0] 89)).alloc (.cells #[.int .u8 116, .int .u8 48] 5)).alloc (.cells #[.string (one 97), .int .u8 1, .bool false] 91)).alloc (.cells #[.string (two 116 48), .slice (some ⟨w.heap.size + 1 + 1, 0, none⟩) 1 1, .int .i64 1] 54)) := ⟨_, rfl⟩
  have hsz : W.heap.size = w.heap.size + 4 := by rw [hW]; simp
  have bt : W.heap[w.heap.size + 1 + 1 + 1]? = some (.cells #[.string (two 116 48), .slice (some ⟨w.heap.size + 1 + 1, 0, none⟩) 1 1, .int .i64 1] 54) := by rw [hW]; have := heap_alloc_new (((w.alloc (.cells #[.slice none 0 0, .int .u8 0] 89)).alloc (.cells #[.int .u8 116, .int .u8 48] 5)).alloc (.cells #[.string (one 97), .int .u8 1, .bool false] 91)) (.cells #[.string (two 116 48), .slice (some ⟨w.heap.size + 1 + 1, 0, none⟩) 1 1, .int .i64 1] 54); simpa using this
  have bc : W.heap[w.heap.size + 1 + 1]? = some (.cells #[.string (one 97), .int .u8 1, .bool false] 91) := by rw [hW, Below.heap_alloc _ _ _ (by simp)]; have := heap_alloc_new ((w.alloc (.cells #[.slice none 0 0, .int .u8 0] 89)).alloc (.cells #[.int .u8 116, .int .u8 48] 5)) (.cells #[.string (one 97), .int .u8 1, .bool false] 91); simpa using this
  have bf : W.heap[w.heap.size]? = some (.cells #[.slice none 0 0, .int .u8 0] 89) := by rw [hW, Below.heap_alloc _ _ _ (by simp; omega), Below.heap_alloc _ _ _ (by simp; omega), Below.heap_alloc _ _ _ (by simp)]; exact heap_alloc_new _ _
  have hf : Fr No w W := by rw [hW]; exact ((((Fr.refl No w).alloc _).alloc _).alloc _).alloc _
  have t0 := blk_cell bt 0
  have t1 := blk_cell bt 1
  have t2 := blk_cell bt 2
  have z2 := blk_frozen bt 2
  have f0 := blk_cell bf 0
  have f1 := blk_cell bf 1
  simp at t0 t1 t2 f0 f1
  have hkeep := Lib.hid (And.intro hsz (And.intro bt (And.intro bc hf)))
  rw [show (⟨#[97]⟩ : ByteArray) = one 97 from rfl]
  rw [← hW]
  clear hW hconv bt bc bf hf hsz hw
  refine wp_loop_rounds 1 ?_
  rw [rounds_succ]
  go_wp2_with fail
  obtain ⟨V, hV⟩ : ∃ V, V = W.setCell ⟨w.heap.size + 1 + 1 + 1, 2, none⟩ (.int .i64 1) := ⟨_, rfl⟩
  have hb : V.heap[w.heap.size + 1 + 1 + 1]? = some (.cells #[.string (two 116 48), .slice (some ⟨w.heap.size + 1 + 1, 0, none⟩) 1 1, .int .i64 1] 54) := by rw [hV]; exact blk_set hkeep.out.2.1 2 _
  have hc : V.heap[w.heap.size + 1 + 1]? = some (.cells #[.string (one 97), .int .u8 1, .bool false] 91) := by rw [hV]; exact blk_far hkeep.out.2.2.1 (by simp) _
  have hfV : Fr No w V := by rw [hV]; exact hkeep.out.2.2.2.set _ (.inr (by simp; omega)) _
  have hszV : V.heap.size = w.heap.size + 4 := by rw [hV]; simpa using hkeep.out.1
  have v0 := blk_cell hb 0
  have v1 := blk_cell hb 1
  have v2 := blk_cell hb 2
  have hff : V.heap[w.heap.size]? = W.heap[w.heap.size]? := by rw [hV]; exact Below.heap_setCell _ _ _ _ (by simp; omega)
  have g0 : V.cell? ⟨w.heap.size, 0, none⟩ = some (.slice none 0 0) := by rw [← f0]; unfold World.cell?; simp only [hff]
  simp at v0 v1 v2
  rw [← hV]
  obtain ⟨W2, hW2⟩ : ∃ W2, W2 = V.alloc (.cells #[.string (two 116 48), .slice (some ⟨w.heap.size + 1 + 1, 0, none⟩) 1 1, .int .i64 1] 54) := ⟨_, rfl⟩
  have hf2 : Fr No V W2 := by rw [hW2]; exact (Fr.refl No V).alloc _
  have hA : At W2 (some ⟨V.heap.size, 0, none⟩) [.string (two 116 48), .slice (some ⟨w.heap.size + 1 + 1, 0, none⟩) 1 1, .int .i64 1] := by rw [hW2]; exact At.block (heap_alloc_new V _)
  have hcol : Rd tCol V (fun i => w.heap.size ≤ i) (some ⟨w.heap.size + 1 + 1, 0, none⟩) [(one 97, 1, false)] :=
    ⟨by simp, [.string (one 97), .int .u8 1, .bool false], Row.single (t := tCol) ⟨[.string (one 97)], [.int .u8 1, .bool false], rfl, rfl, [.int .u8 1], [.bool false], rfl, rfl, rfl⟩, fun j u hu => ⟨_, rfl, by simp; omega, by rw [add0, blk_cell hc, ← Array.getElem?_toList]; exact hu⟩⟩
  have hrow : Row tTab W2 (fun i => w.heap.size ≤ i ∧ (Value.slice none 0 0).ownBlock ≠ some i) [tab0] [.string (two 116 48), .slice (some ⟨w.heap.size + 1 + 1, 0, none⟩) 1 1, .int .i64 1] :=
    Row.single (t := tTab) ⟨[.string (two 116 48)], [.slice (some ⟨w.heap.size + 1 + 1, 0, none⟩) 1 1, .int .i64 1], rfl, rfl, [.slice (some ⟨w.heap.size + 1 + 1, 0, none⟩) 1 1], [.int .i64 1], rfl, ⟨_, 1, rfl, Nat.le_refl _, (hcol.fr0 hf2).mono fun i hi _ => ⟨hi, by simp [Value.ownBlock]⟩⟩, rfl⟩
  obtain ⟨A1, c1, w1, hrun, hO, hg, _⟩ := run_ow_append (P := Tryz.prog) (ty := 27) (ty' := 27) tTab (Ow.nil (F := fun i => w.heap.size ≤ i)) (.agg #[.string ⟨#[]⟩, .slice none 0 0, .int .i64 0]) 48 Tryz.underlying27 info_tab rfl (by decide) (by decide) 1 (ys := [tab0]) hrow hA (by simp)
  simp only [List.length_nil, Nat.zero_add, List.nil_append, List.length_singleton] at hrun hO
  rw [hszV] at hrun
  have hO' : Ow tTab 54 w1 (fun i => w.heap.size ≤ i) (.slice A1 1 c1) [tab0] := hO.mono fun i hi _ => by
    have := hf2.size
    rcases hi with hi | hi <;> omega
  have HF := Lib.hid (And.intro hO' ((hfV.next hf2 (fun _ _ f => f.elim)).grown hg fun k hk => by simp [Value.ownBlock] at hk))
  clear hb hc hfV hff hf2 hcol hrow hO hO' hg hV hA hkeep t0 t1 t2 f0 f1 z2
  refine wp_loop_rounds 1 ?_
  rw [rounds_succ]
  go_wp2_with (at_builtin; rw [← hW2]; refine wpList_plain rfl fun K hK => wp_append_run _ _ _ _ rfl rfl rfl hrun (hK _ _ ?_))
  rw [rounds_succ]
  go_wp2_with fail
  go_ret
  exact ⟨A1, c1, rfl, HF.out.1, HF.out.2⟩
theorem tables_nil {w : World} : Calls Tryz.prog 9 #[.slice none 0 0] w fun e w' => ∃ A c, e = .returned (.slice A 1 c) ∧ 1 ≤ c ∧ Rd tTab w' (fun i => w.heap.size ≤ i) A [tab0] ∧ Fr No w w' :=
  tables_nil_ow.mono fun e w' ⟨A, c, he, ho, hf⟩ => ⟨A, c, he, ho.rd.2.1, ho.rd.2.2, hf⟩
end Go.Proofs.YtlmhphejgahfbaaGreatDoor
