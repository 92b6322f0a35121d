/- Texts of this claim, one behind the other: Wait, Sha5, Build. -/
import Derived.Test.YtlmhphejgahfbaaGreatDoorMrowledgerfirst4
import Derived.ArgAppend
import Derived.Test.YtlmhphejgahfbaaGreatDoorShelf
import Derived.Test.YtlmhphejgahfbaaGreatDoorMrowledgerfirst1
/- Bytes that wait: a slice of one's own, from any place in its array on. -/
set_option linter.unusedVariables false
set_option linter.unusedSimpArgs false
namespace Go.Proofs.YtlmhphejgahfbaaGreatDoor
open Go.RowKit

def cells8 (xs : Bs) : List Value := xs.map fun x => .int .u8 (x.toNat : Int)
theorem cells8_len (xs : Bs) : (cells8 xs).length = xs.length := by unfold cells8; simp
theorem cells8_append (xs ys : Bs) : cells8 (xs ++ ys) = cells8 xs ++ cells8 ys := by unfold cells8; simp
theorem cells8_row {w : World} {F : Nat → Prop} (xs : Bs) : Row Ty.u8 w F xs (cells8 xs) := by
  induction xs with
  | nil => rfl
  | cons x xs ih => exact ⟨_, _, rfl, rfl, ih⟩
theorem row_cells8 {w : World} {F : Nat → Prop} {xs : Bs} {cs : List Value} (h : Row Ty.u8 w F xs cs) : cs = cells8 xs := by
  induction xs generalizing cs with
  | nil => exact h
  | cons x xs ih => obtain ⟨c, d, rfl, rfl, h2⟩ := h; rw [ih h2]; rfl

theorem setCells_blk {b : Nat} {t : TypeId} : ∀ (news : List Value) (w : World) (o : Nat) (cur : Array Value), w.heap[b]? = some (.cells cur t (0, 0)) → o + news.length ≤ cur.size →
    ∃ cur', (w.setCells b o news).heap[b]? = some (.cells cur' t (0, 0)) ∧ cur'.size = cur.size ∧ (∀ i, cur'[i]? = if o ≤ i ∧ i < o + news.length then news[i - o]? else cur[i]?) ∧ Fr (fun k => k = b) w (w.setCells b o news)
  | [], w, o, cur, hb, hl => ⟨cur, hb, rfl, fun i => by rw [if_neg (by simp only [List.length_nil]; omega)], Fr.refl _ _⟩
  | v :: vs, w, o, cur, hb, hl => by
    simp only [List.length_cons] at hl
    obtain ⟨cur', h1, h2, h3, h4⟩ := setCells_blk vs (w.setCell ⟨b, o, none⟩ v) (o + 1) _ (blk_set hb o v) (by simp; omega)
    refine ⟨cur', h1, by simpa using h2, fun i => ?_, (Fr.set (F := fun k => k = b) (Fr.refl (fun k => k = b) w) ⟨b, o, none⟩ (.inl rfl) v).trans (h4.mono fun k _ e => .inl e)⟩
    rw [h3 i, Array.getElem?_setIfInBounds]
    simp only [List.length_cons]
    by_cases h : o = i
    · subst h
      rw [if_neg (by omega), if_pos rfl, if_pos (by omega), if_pos (by omega), Nat.sub_self]; rfl
    · by_cases h5 : o + 1 ≤ i ∧ i < o + 1 + vs.length
      · rw [if_pos h5, if_pos (by omega), show i - o = (i - (o + 1)) + 1 by omega]; rfl
      · rw [if_neg h5, if_neg (by omega), if_neg (by omega)]

/-- Bytes that wait; F bounds their block. -/
def Wt (w : World) (F : Nat → Prop) (v : Value) (xs : Bs) : Prop :=
  (v = .slice none 0 0 ∧ xs = []) ∨ ∃ g off cap cur, v = .slice (some ⟨g, off, none⟩) xs.length cap ∧ F g ∧ w.heap[g]? = some (.cells cur 5 (0, 0)) ∧ xs.length ≤ cap ∧ off + cap ≤ cur.size ∧ cap ≤ maxLen ∧ ∀ i, i < xs.length → cur[off + i]? = (cells8 xs)[i]?
theorem Wt.stab {w w' : World} {F : Nat → Prop} {v : Value} {xs : Bs} (h : Wt w F v xs) (k : ∀ k, F k → k < w.heap.size → w'.heap[k]? = w.heap[k]?) : Wt w' F v xs := by
  rcases h with h | ⟨g, off, cap, cur, h1, h2, h3, h4⟩
  · exact .inl h
  · exact .inr ⟨g, off, cap, cur, h1, h2, (k g h2 (blk_lt h3)).trans h3, h4⟩
theorem Wt.fr {S F : Nat → Prop} {w w' : World} {v : Value} {xs : Bs} (h : Wt w F v xs) (f : Fr S w w') (hd : ∀ k, F k → ¬ S k) : Wt w' F v xs := h.stab fun k hk hl => f.block k hl (hd k hk)
theorem Wt.fr0 {F : Nat → Prop} {w w' : World} {v : Value} {xs : Bs} (h : Wt w F v xs) (f : Fr No w w') : Wt w' F v xs := h.fr f fun _ _ f => f
theorem Wt.mono {F G : Nat → Prop} {w : World} {v : Value} {xs : Bs} (h : Wt w F v xs) (k : ∀ k, F k → k < w.heap.size → G k) : Wt w G v xs := by
  rcases h with h | ⟨g, off, cap, cur, h1, h2, h3, h4⟩
  · exact .inl h
  · exact .inr ⟨g, off, cap, cur, h1, k g h2 (blk_lt h3), h3, h4⟩
theorem Wt.form {F : Nat → Prop} {w : World} {v : Value} {xs : Bs} (h : Wt w F v xs) : ∃ A c, v = .slice A xs.length c ∧ xs.length ≤ c ∧ xs.length ≤ 9223372036854775807 := by
  rcases h with ⟨rfl, rfl⟩ | ⟨g, off, cap, cur, rfl, _, _, h4, _, h6, _⟩
  · exact ⟨none, 0, rfl, Nat.le_refl _, by simp⟩
  · exact ⟨_, cap, rfl, h4, by unfold maxLen at h6; omega⟩
theorem info_b8 : (Tryz.prog.info? 5).map (fun i => (i.zero, i.size, i.bytes)) = some (some (.int .u8 0), 1, 1) := by kernel_rfl

theorem Wt.of_owns {w : World} {F : Nat → Prop} {v : Value} {xs : Bs} {base : Nat} (h : w.ownsRow base 5 1 v xs.length (cells8 xs)) (hF : ∀ k, base ≤ k → k < w.heap.size → F k) : Wt w F v xs := by
  rcases h.2 with ⟨rfl, h4⟩ | ⟨g, cap, cur, rfl, hb, hg, hn, hm, hs, ht⟩
  · exact .inl ⟨rfl, List.eq_nil_of_length_eq_zero h4⟩
  · refine .inr ⟨g, 0, cap, cur, rfl, hF g hb (blk_lt hg), hg, hn, by omega, hm, fun i hi => ?_⟩
    rw [Nat.zero_add, ← ht, List.getElem?_take, if_pos (by omega), Array.getElem?_toList]

set_option maxRecDepth 100000 in
/-- append(v, x...). -/
theorem wt_append {w : World} {F : Nat → Prop} {v : Value} {xs ys : Bs} (h : Wt w F v xs) {A : Option Addr} {c : Nat} (hA : At w A (cells8 ys)) (hl : xs.length + ys.length ≤ 140737488355328) (ty : TypeId) :
    ∃ v' w', (Builtin.append_ #[46, 46] ty #[v, .slice A ys.length c]).run Tryz.prog w = .ok v' w' ∧ Wt w' (fun i => F i ∨ w.heap.size ≤ i) v' (xs ++ ys) ∧ Fr F w w' := by
  obtain ⟨i0, hi, hz0, hz1, hz2⟩ := info_parts info_b8
  have hml : xs.length + ys.length ≤ maxLen := by unfold maxLen; omega
  by_cases hy : ys = []
  · subst hy
    have hf : (Builtin.firstCells i0.size 0 (.slice A 0 c)).run Tryz.prog w = .ok #[] w := by cases A <;> simp [Builtin.firstCells, loadCells, loadCellsFrom]
    rcases h with ⟨rfl, rfl⟩ | ⟨g, off, cap, cur, rfl, h2, h3, h4, h5⟩
    · refine ⟨.slice none 0 0, w, ?_, .inl ⟨rfl, rfl⟩, Fr.refl _ _⟩
      simp [Builtin.append_, run_underlying Tryz.underlying46, sizeOf, typeInfo, hi, Builtin.lenOf, hf]
    · refine ⟨.slice (some ⟨g, off, none⟩) xs.length cap, w, ?_, .inr ⟨g, off, cap, cur, by simp, .inl h2, h3, by simpa using h4, by simpa using h5⟩, Fr.refl _ _⟩
      simp [Builtin.append_, run_underlying Tryz.underlying46, sizeOf, typeInfo, hi, Builtin.lenOf, hf, h4, storeCells]
  · have hy1 : 0 < ys.length := List.length_pos_iff.2 hy
    obtain ⟨ad, rfl, _⟩ := hA 0 _ (List.getElem?_eq_getElem (by rw [cells8_len]; exact hy1))
    have hnews : ∀ j u, (cells8 ys)[j]? = some u → w.cell? (ad.add j) = some u := fun j u hu => by
      obtain ⟨ad', e', hc⟩ := hA j u hu
      obtain rfl := Option.some.inj e'
      exact hc
    have hone : ∀ u ∈ cells8 ys, u.oneCell' = true := (cells8_row (w := w) (F := F) ys).one
    rcases h with ⟨rfl, rfl⟩ | ⟨g, off, cap, cur, rfl, h2, h3, h4, h5, h6, h7⟩
    · obtain ⟨g, cap, w', hr, ho, hg, _, _⟩ := run_append_lies (P := Tryz.prog) w 46 ty w.heap.size 5 i0 _ 1 1 Tryz.underlying46 hi hz0 hz1 hz2 rfl (by decide) _ 0 [] (World.ownsRow_nil w w.heap.size 5 1) ad ys.length c (cells8 ys) (by rw [cells8_len, Nat.mul_one]) hnews hone hy1 (by simp only [List.length_nil, Nat.zero_add] at hml; omega) (by simp only [List.length_nil] at hl; omega) (Nat.le_refl _) w.heap.size rfl
      simp only [Nat.zero_add, List.nil_append] at hr ho
      exact ⟨_, w', hr, (Wt.of_owns ho fun k hk _ => .inr hk), (Fr.refl _ w).grown hg fun k hk => by cases hk⟩
    · have hold : ∀ j u, (cells8 xs)[j]? = some u → w.cell? ⟨g, off + j, none⟩ = some u := fun j u hu => by
        have hj := (List.getElem?_eq_some_iff.1 hu).1
        rw [cells8_len] at hj
        rw [blk_cell h3, h7 j hj]; exact hu
      by_cases hr : xs.length + ys.length ≤ cap
      · have hrun := run_append_room_cells (P := Tryz.prog) w 46 ty 5 i0 Tryz.underlying46 hi g off xs.length cap ad ys.length c (cells8 ys) (by rw [cells8_len, hz1, Nat.mul_one]) hnews hone hr (fun j hj => by
          rw [cells8_len] at hj
          rw [hz1, Nat.mul_one, blk_cell h3, Array.getElem?_eq_getElem (by omega)]; rfl) (fun j hj => by rw [hz1, Nat.mul_one]; exact blk_frozen h3 _)
        rw [hz1, Nat.mul_one] at hrun
        obtain ⟨cur', k1, k2, k3, k4⟩ := setCells_blk (cells8 ys) w (off + xs.length) cur h3 (by rw [cells8_len]; omega)
        refine ⟨_, _, hrun, .inr ⟨g, off, cap, cur', by rw [List.length_append], .inl h2, k1, by rw [List.length_append]; exact hr, by omega, h6, fun i hi => ?_⟩, k4.mono fun k _ e => by rw [e]; exact h2⟩
        rw [List.length_append] at hi
        rw [k3, cells8_len, cells8_append]
        by_cases hlt : i < xs.length
        · rw [if_neg (by omega), h7 i hlt, List.getElem?_append_left (by rw [cells8_len]; exact hlt)]
        · rw [if_pos (by omega), List.getElem?_append_right (by rw [cells8_len]; omega), cells8_len]
          congr 1; omega
      · obtain ⟨v', w', hrun, ho, hg⟩ := run_append_arg_grows (P := Tryz.prog) w 46 ty 5 i0 _ 1 1 Tryz.underlying46 hi hz0 hz1 hz2 rfl (by decide) ⟨g, off, none⟩ xs.length cap (cells8 xs) (by rw [cells8_len, Nat.mul_one]) (fun j u hj => by rw [Addr.add_lit]; exact hold j u hj) ad ys.length c (cells8 ys) (by rw [cells8_len, Nat.mul_one]) hnews (by omega) hml (by omega)
        rw [← cells8_append, ← List.length_append] at ho
        exact ⟨v', w', hrun, Wt.of_owns ho fun k hk _ => .inr hk, (Fr.refl _ w).grown hg fun k hk => by cases hk⟩

/-- The first 64, and those behind. -/
theorem Wt.head {w : World} {F : Nat → Prop} {A : Option Addr} {n c : Nat} {xs : Bs} (h : Wt w F (.slice A n c) xs) (h64 : 64 ≤ xs.length) : n = xs.length ∧ 64 ≤ c ∧ Rd Ty.u8 w F A (xs.take 64) ∧
    (∀ W, (Instr.slice 46 (.slice A n c) none (some (.int .i64 64)) none).run Tryz.prog W = .ok (.slice A 64 c) W) ∧
    ∃ A', (∀ W, (Instr.slice 46 (.slice A n c) (some (.int .i64 64)) none none).run Tryz.prog W = .ok (.slice A' (n - 64) (c - 64)) W) ∧ Wt w F (.slice A' (n - 64) (c - 64)) (xs.drop 64) := by
  rcases h with ⟨h1, rfl⟩ | ⟨g, off, cap, cur, h1, h2, h3, h4, h5, h6, h7⟩
  · simp at h64
  · injection h1 with e1 e2 e3
    subst e1; subst e2; subst e3
    have hu : Tryz.prog.underlying 46 = some (.slice (Tryz.prog.elem 46)) := by kernel_rfl
    have hel : Tryz.prog.elem 46 = 5 := by kernel_rfl
    obtain ⟨i0, hi, hz0, hz1, hz2⟩ := info_parts info_b8
    refine ⟨rfl, by omega, ⟨by simp; omega, cells8 (xs.take 64), cells8_row _, fun j u hj => ?_⟩, fun W => ?_, ?_⟩
    · have hj' := (List.getElem?_eq_some_iff.1 hj).1
      rw [cells8_len, List.length_take] at hj'
      refine ⟨_, rfl, h2, ?_⟩
      rw [Addr.add_lit, blk_cell h3, h7 j (by omega)]
      unfold cells8 at hj ⊢
      rw [List.getElem?_map, List.getElem?_take, if_pos (by omega)] at hj
      rw [List.getElem?_map]; exact hj
    · have hc0 : ¬ c = 0 := by omega
      have := run_slice_h (P := Tryz.prog) W 46 (some ⟨g, off, none⟩) xs.length c hu .i64 64 (by omega) (by omega)
      rw [this, hel]
      simp [sizeOf, typeInfo, hi, hz1, sliced, Result.andThen, hc0, Addr.add]
    · have hrun := fun W => run_slice_l (P := Tryz.prog) W 46 (some ⟨g, off, none⟩) xs.length c hu .i64 64 (by omega) (by omega)
      by_cases hc : c = 64
      · refine ⟨some ⟨g, off, none⟩, fun W => ?_, .inr ⟨g, off, c - 64, cur, by simp, h2, h3, by simp; omega, by omega, by omega, fun i hi => ?_⟩⟩
        · rw [hrun, hel]
          simp [sizeOf, typeInfo, hi, hz1, sliced, Result.andThen, hc]
        · simp at hi; omega
      · refine ⟨some ⟨g, off + 64, none⟩, fun W => ?_, .inr ⟨g, off + 64, c - 64, cur, by simp, h2, h3, by simp; omega, by omega, by omega, fun i hi => ?_⟩⟩
        · rw [hrun, hel]
          simp [sizeOf, typeInfo, hi, hz1, sliced, Result.andThen, hc, Addr.add]
        · rw [List.length_drop] at hi
          rw [Nat.add_assoc, h7 (64 + i) (by omega)]
          unfold cells8
          rw [List.getElem?_map, List.getElem?_map, List.getElem?_drop]
end Go.Proofs.YtlmhphejgahfbaaGreatDoor
/- SHA-256: write. -/
set_option linter.unusedVariables false
set_option linter.unusedSimpArgs false
namespace Go.Proofs.YtlmhphejgahfbaaGreatDoor
open Go.RowKit

/-- Whole blocks are eaten; what is left. -/
def feed (H : Nat → W32) (q : Bs) : (Nat → W32) × Bs := if 64 ≤ q.length then feed (eatS H (q.take 64)) (q.drop 64) else (H, q)
termination_by q.length
decreasing_by simp; omega
theorem feed_lt {H : Nat → W32} {q : Bs} (h : ¬ 64 ≤ q.length) : feed H q = (H, q) := by rw [feed, if_neg h]
theorem feed_ge {H : Nat → W32} {q : Bs} (h : 64 ≤ q.length) : feed H q = feed (eatS H (q.take 64)) (q.drop 64) := by rw [feed, if_pos h]
theorem feed_short (H : Nat → W32) (q : Bs) : (feed H q).2.length < 64 := by
  induction hn : q.length using Nat.strongRecOn generalizing H q with
  | _ n ih =>
    by_cases h : 64 ≤ q.length
    · rw [feed_ge h]; exact ih _ (by simp; omega) _ _ rfl
    · rw [feed_lt h]; show q.length < 64; omega
theorem feed_append (H : Nat → W32) (a b : Bs) : feed (feed H a).1 ((feed H a).2 ++ b) = feed H (a ++ b) := by
  induction hn : a.length using Nat.strongRecOn generalizing H a with
  | _ n ih =>
    by_cases h : 64 ≤ a.length
    · rw [feed_ge h, feed_ge (q := a ++ b) (by rw [List.length_append]; omega), List.take_append_of_le_length h, List.drop_append_of_le_length h]
      exact ih _ (by simp; omega) _ _ rfl
    · rw [feed_lt h]

structure Hasher (w : World) (F : Nat → Prop) (hb : Nat) (H : Nat → W32) (ws : Bs) (n : Nat) : Prop where
  mem : F hb
  blk : ∃ wv, HB w hb H wv (.int .u64 (n : Int)) ∧ Wt w (fun i => F i ∧ i ≠ hb) wv ws
theorem Hasher.fr0 {w w' : World} {F : Nat → Prop} {hb : Nat} {H : Nat → W32} {ws : Bs} {n : Nat} (h : Hasher w F hb H ws n) (f : Fr No w w') : Hasher w' F hb H ws n := by
  obtain ⟨h1, wv, h2, h3⟩ := h
  exact ⟨h1, wv, h2.fr0 f, h3.fr0 f⟩
def waitLen (w : World) (hb : Nat) : Nat := match w.cell? ⟨hb, 8, none⟩ with | some (.slice _ n _) => n | _ => 0

set_option maxHeartbeats 4000000 in
set_option maxRecDepth 100000 in
theorem write_ok {w : World} {F G : Nat → Prop} {hb c n : Nat} {A : Option Addr} {p ws : Bs} {H : Nat → W32} (h : Hasher w F hb H ws n) (hr : Rd Ty.u8 w G A p) (hd : ∀ i, G i → ¬ F i) (hk : KAt w) (hF : ¬ F 0) (hl : ws.length + p.length ≤ 1000000000000) (hn : n + p.length ≤ 1000000000000) :
    Calls Tryz.prog 89 #[.pointer (some ⟨hb, 0, none⟩), .slice A p.length c] w fun e w' => e = .returned (.tuple #[]) ∧ Hasher w' (fun i => F i ∨ w.heap.size ≤ i) hb (feed H (ws ++ p)).1 (feed H (ws ++ p)).2 (n + p.length) ∧ Fr F w w' := by
  obtain ⟨hm, wv, hB, hW⟩ := h
  have hlt := hB.lt
  have hpl := hr.1
  have c9 := hB.num
  have c8 := hB.wait
  have z9 := hB.free 9
  have s1 : IntKind.u64.wrap (p.length : Int) = (p.length : Int) := by show (p.length : Int) % 18446744073709551616 = _; omega
  have s2 : IntKind.u64.wrap ((n : Int) + (p.length : Int)) = ((n + p.length : Nat) : Int) := by show ((n : Int) + (p.length : Int)) % 18446744073709551616 = _; omega
  obtain ⟨n', hn'⟩ : ∃ n', n + p.length = n' := ⟨_, rfl⟩
  rw [hn'] at s2
  have HN := Lib.hid hn'
  clear hn'
  obtain ⟨W1, hW1⟩ : ∃ W1, W1 = w.setCell ⟨hb, 9, none⟩ (.int .u64 (n' : Int)) := ⟨_, rfl⟩
  have hB1 : HB W1 hb H wv (.int .u64 (n' : Int)) := by rw [hW1]; exact hB.setNum _
  have hf1 : Fr (fun i => i = hb) w W1 := by rw [hW1]; exact Fr.set (F := fun i => i = hb) (Fr.refl (fun i => i = hb) w) ⟨hb, 9, none⟩ (.inl rfl) _
  have hWt1 := hW.fr hf1 (fun k hk => hk.2)
  obtain ⟨csp, hrow, hat⟩ := (hr.fr hf1 (fun i hi e => hd i hi (by rw [e]; exact hm))).at
  obtain rfl := row_cells8 hrow
  obtain ⟨v2, w2, hrun, hWt2, hf2⟩ := wt_append (c := c) hWt1 hat (by omega) 46
  obtain ⟨A2, c2, rfl, _, _⟩ := hWt2.form
  have hB2 := hB1.fr hf2 (fun h => h.2 rfl)
  have c8a := hB1.wait
  have z8 := hB2.free 8
  have c8b := hB2.wait
  have hB3 := hB2.setWait (.slice A2 (ws ++ p).length c2)
  have hf3 : Fr (fun i => i = hb) w2 (w2.setCell ⟨hb, 8, none⟩ (.slice A2 (ws ++ p).length c2)) := Fr.set (F := fun i => i = hb) (Fr.refl (fun i => i = hb) w2) ⟨hb, 8, none⟩ (.inl rfl) _
  have hWt3 := hWt2.fr hf3 (fun k hk e => by
    rcases hk with hk | hk
    · exact hk.2 e
    · have := hB1.lt; omega)
  have hF3 : Fr F w (w2.setCell ⟨hb, 8, none⟩ (.slice A2 (ws ++ p).length c2)) := ((hf1.mono fun i _ e => (by rw [e]; exact hm : F i)).trans (hf2.mono fun i _ hi => .inl hi.1)).trans (hf3.mono fun i _ e => .inl (by rw [e]; exact hm))
  have hs1 : W1.heap.size = w.heap.size := by rw [hW1]; simp [World.setCell]
  have HX := Lib.hid (And.intro hB3 (And.intro hWt3 (And.intro hF3 (And.intro hs1 (And.intro hm (And.intro hk hF))))))
  clear hm hB hW hB1 hf1 hWt1 hrow hat hWt2 hf2 hB2 hB3 hf3 hWt3 hF3 hr hd hk hF
  go_enter Tryz.func89, Tryz.ntmps89
  go_wp2_with (at_builtin; rw [← hW1]; refine wpList_plain rfl fun K hK => wp_append_run _ _ _ _ rfl rfl rfl hrun (hK _ _ ?_))
  obtain ⟨w3, hw3⟩ : ∃ w3, w3 = w2.setCell ⟨hb, 8, none⟩ (.slice A2 (ws ++ p).length c2) := ⟨_, rfl⟩
  rw [← hw3] at HX
  go_wp2_with fail
  rw [List.length_append] at hw3
  try rw [← hw3]
  clear hw3 hW1 c8 c9 z9 s1 s2 hrun c8a z8 c8b hs1
  go_loopw [23] (fun _ wr => Hid (∃ q H' wv, feed H' q = feed H (ws ++ p) ∧ HB wr hb H' wv (.int .u64 (n' : Int)) ∧ Wt wr (fun i => (F i ∨ w.heap.size ≤ i) ∧ i ≠ hb) wv q ∧ Fr F w wr)) (fun _ wr => waitLen wr hb)
  case atStart =>
    refine ⟨ws ++ p, H, _, rfl, HX.out.1, HX.out.2.1.mono fun i hi _ => ?_, HX.out.2.2.1⟩
    have hs := HX.out.2.2.2.1
    have := HX.out.2.2.1
    rcases hi with hi | hi
    · exact ⟨.inl hi.1, hi.2⟩
    · exact ⟨.inr (by omega), fun e => by have := hlt; omega⟩
  case round =>
    obtain ⟨q, H', wv', hq, hB, hW, hf⟩ := hrel.out
    obtain ⟨A3, c3, rfl, _, hq63⟩ := hW.form
    have c8 := hB.wait
    have hql : (q.length : Int) ≤ 9223372036854775807 := by omega
    have hq0 : (0 : Int) ≤ (q.length : Int) := Int.natCast_nonneg _
    have HQ := Lib.hid (And.intro hq (And.intro hB (And.intro hW hf)))
    by_cases h64 : 64 ≤ q.length
    · have h64i : (64 : Int) ≤ (q.length : Int) := by omega
      obtain ⟨_, hc64, hrd, hsl, A4, hsl2, hW4⟩ := hW.head h64
      have hkr := HX.out.2.2.2.2.2.1.fr hf HX.out.2.2.2.2.2.2
      have heat := eat_ok (c := c3) hrd (by rw [List.length_take]; omega) hkr hB (fun h => h.2 rfl) (fun e => HX.out.2.2.2.2.2.2 (by rw [← e]; exact HX.out.2.2.2.2.1))
      have HE := Lib.hid (And.intro heat hW4)
      clear hq hB hW hf hrd hkr heat hW4 hq63
      go_wp2_with fail
      refine HE.out.1.mono ?_
      rintro e5 w5 ⟨rfl, hB5, hf5⟩
      have c8 := hB5.wait
      have z8 := hB5.free 8
      have hB6 := hB5.setWait (.slice A4 (q.length - 64) (c3 - 64))
      have hf6 : Fr (fun i => i = hb) w5 (w5.setCell ⟨hb, 8, none⟩ (.slice A4 (q.length - 64) (c3 - 64))) := Fr.set (F := fun i => i = hb) (Fr.refl (fun i => i = hb) w5) ⟨hb, 8, none⟩ (.inl rfl) _
      have hW6 := (HE.out.2.fr hf5 fun k hk => hk.2).fr hf6 fun k hk => hk.2
      have H6 := Lib.hid (And.intro hB6 (And.intro hW6 (And.intro hf5 hf6)))
      clear hB5 hf5 hB6 hf6 hW6
      go_wp2_with fail
      go_roundw
      case rel =>
        have hm := HX.out.2.2.2.2.1
        exact ⟨q.drop 64, eatS H' (q.take 64), _, by rw [← feed_ge h64]; exact HQ.out.1, H6.out.1, H6.out.2.1, (HQ.out.2.2.2.trans (H6.out.2.2.1.mono fun i _ e => .inl (by rw [e]; exact hm))).trans (H6.out.2.2.2.mono fun i _ e => .inl (by rw [e]; exact hm))⟩
      case measure =>
        have e1 := H6.out.1.wait
        have e2 := HQ.out.2.1.wait
        unfold waitLen
        rw [e1, e2]
        dsimp only
        omega
    · have h64i : (q.length : Int) < 64 := by omega
      clear hq hB hW hf hq63
      go_wp2_with fail
      go_end0
      have e := HQ.out.1
      rw [feed_lt h64] at e
      rw [← e, HN.out]
      exact ⟨rfl, ⟨.inl HX.out.2.2.2.2.1, _, HQ.out.2.1, HQ.out.2.2.1⟩, HQ.out.2.2.2⟩
end Go.Proofs.YtlmhphejgahfbaaGreatDoor
/- strings.Builder: copyCheck and WriteByte at this program. -/
set_option linter.unusedVariables false
set_option linter.unusedSimpArgs false
namespace Go.Proofs.YtlmhphejgahfbaaGreatDoor
open Go.RowKit Go.Shelf

theorem sizeBuilder : (Tryz.prog.info? 239).map (·.size) = some 2 := by kernel_rfl
theorem liesBuilder : liesAt Tryz.prog Tryz.prog.depth 239 (2 / Tryz.prog.cellsOf 239) 0 239 1 = true := by kernel_rfl

set_option maxHeartbeats 1000000 in
set_option maxRecDepth 100000 in
theorem copy_used (b : Nat) (w : World) (h0 : w.cell? ⟨b, 0, none⟩ = some (.pointer (some ⟨b, 0, none⟩))) :
    Calls Tryz.prog 206 #[.pointer (some ⟨b, 0, none⟩)] w fun e w' => e = .returned (.tuple #[]) ∧ w' = w := by
  obtain ⟨j, hj, _⟩ := Option.map_eq_some_iff.1 sizeBuilder
  go_enter Tryz.func206, Tryz.ntmps206
  go_wp2
  rw [Lib.run_neq_ptr_same w _ Tryz.underlying237 hj]
  go_wp2
  go_end0
  exact ⟨rfl, rfl⟩

set_option maxHeartbeats 1000000 in
set_option maxRecDepth 100000 in
theorem copy_fresh (b : Nat) (w : World) (h0 : w.cell? ⟨b, 0, none⟩ = some (.pointer none)) (hsh : w.shape? b = some (239, 2)) (hfz : w.frozen? ⟨b, 0, none⟩ = false) :
    Calls Tryz.prog 206 #[.pointer (some ⟨b, 0, none⟩)] w fun e w' => e = .returned (.tuple #[]) ∧ w' = w.setCell ⟨b, 0, none⟩ (.pointer (some ⟨b, 0, none⟩)) := by
  obtain ⟨j, hj, hjs⟩ := Option.map_eq_some_iff.1 sizeBuilder
  go_enter Tryz.func206, Tryz.ntmps206
  go_wp2
  rw [Lib.run_to_unsafe w ⟨b, 0, none⟩ Tryz.underlying237 Tryz.underlying316 hj (by rw [hjs]; decide) hsh (Nat.zero_lt_succ 1)]
  simp only [Result.andThen]
  rw [Oper.upon_value]
  go_wp2
  rw [run_callFunc_extern Tryz.func234 (by kernel_rfl) (by kernel_rfl) (by kernel_rfl) (e := Extern.AbiNoEscape.same) (by kernel_rfl)]
  rw [Lib.run_noEscape]
  simp only [Result.andThen]
  rw [Oper.upon_value]
  go_wp2
  rw [Lib.run_from_unsafe w ⟨b, 0, none⟩ Tryz.underlying316 Tryz.underlying237 hj hsh liesBuilder]
  simp only [Result.andThen]
  rw [Oper.upon_value]
  go_wp2
  go_end0
  exact ⟨rfl, rfl⟩
theorem copy_check (B b : Nat) (bs : List Value) (w : World) (h : Lib.IsBuilder 239 5 B b bs w) :
    Calls Tryz.prog 206 #[.pointer (some ⟨b, 0, none⟩)] w fun e w' => e = .returned (.tuple #[]) ∧ (Lib.BuilderAt 239 5 B b (.pointer (some ⟨b, 0, none⟩)) bs w' ∧ Below B w w') := by
  rcases h with h | h
  · refine (copy_fresh b w h.cell0 h.shape h.frozen0).mono ?_
    rintro e w' ⟨rfl, rfl⟩
    exact ⟨rfl, h.used _, (Below.refl B w).setCell (p := ⟨b, 0, none⟩) h.1 _⟩
  · refine (copy_used b w h.cell0).mono ?_
    rintro e w' ⟨rfl, rfl⟩
    exact ⟨rfl, h, Below.refl B _⟩
set_option maxHeartbeats 1000000 in
set_option maxRecDepth 100000 in
theorem write_byte (B b : Nat) (bs : List Value) (c : Int) (w : World) (h : Lib.IsBuilder 239 5 B b bs w) (hlen : bs.length + 1 ≤ 140737488355328) (hBw : B ≤ w.heap.size) :
    Calls Tryz.prog 160 #[.pointer (some ⟨b, 0, none⟩), .int .u8 c] w fun e w' => e = .returned .nilIface ∧ (Lib.BuilderAt 239 5 B b (.pointer (some ⟨b, 0, none⟩)) (bs ++ [.int .u8 c]) w' ∧ Below B w w') := by
  have hinfo : (Tryz.prog.info? 5).map (fun i => (i.zero, i.size, i.bytes)) = some (some (.int .u8 0), 1, 1) := by kernel_rfl
  obtain ⟨i0, hi, hz0, hz1, hz2⟩ := info_parts hinfo
  have hcc := Lib.hid (copy_check B b bs w h)
  clear hinfo
  go_enter Tryz.func160, Tryz.ntmps160
  go_wp2_with fail
  refine hcc.out.mono ?_
  rintro e w1 ⟨rfl, h1, hb1⟩
  obtain ⟨hB, v, hbk, hown, hne⟩ := h1
  have c0 : w1.cell? ⟨b, 0, none⟩ = some (.pointer (some ⟨b, 0, none⟩)) := by rw [Lib.cell_of_heap hbk]; rfl
  have c1 : w1.cell? ⟨b, 1, none⟩ = some v := by rw [Lib.cell_of_heap hbk]; rfl
  go_wp2_with (at_builtin; refine wpList_append_own _ rfl _ _ 46 rfl B 5 i0 (.int .u8 0) 1 1 Tryz.underlying46 hi hz0 hz1 hz2 rfl (by decide) _ _ _ rfl (hown.alloc _) ⟨w1.heap.size, 0, none⟩ 1 1 [.int .u8 c] rfl rfl ?c1 ?c2 ?c3 ?c4 ?c5 ?_)
  case c1 =>
    intro j u hj
    match j, hj with
    | 0, hj => simp at hj; subst hj; simp [Addr.add]
  case c2 => intro u hu; simp at hu; subst hu; rfl
  case c3 => unfold maxLen; omega
  case c4 => omega
  case c5 => have := hb1.size; simp; omega
  intro v' w2 hown' hgrow _
  have hlt : b < w1.heap.size := by
    rcases Nat.lt_or_ge b w1.heap.size with h' | h'
    · exact h'
    · simp [Array.getElem?_eq_none h'] at hbk
  have hb2 : w2.heap[b]? = some (.cells #[.pointer (some ⟨b, 0, none⟩), v] 239 (0, 0)) := by
    rw [hgrow.block b (by simp; omega) (fun e => hne e.symm), Lib.alloc_old w1 _ b hlt]
    exact hbk
  have d0 : w2.cell? ⟨b, 0, none⟩ = some (.pointer (some ⟨b, 0, none⟩)) := by rw [Lib.cell_of_heap hb2]; rfl
  have d1 : w2.cell? ⟨b, 1, none⟩ = some v := by rw [Lib.cell_of_heap hb2]; rfl
  have f1 : w2.frozen? ⟨b, 1, none⟩ = false := Lib.frozen_of_heap hb2 1
  obtain ⟨g, cap, rfl⟩ : ∃ g cap, v' = .slice (some ⟨g, 0, none⟩) (bs.length + 1) cap := by
    rcases hown'.2 with ⟨_, h0⟩ | ⟨g, cap, cur, hv, _⟩
    · omega
    · exact ⟨g, cap, hv⟩
  go_wp2
  go_ret
  refine ⟨rfl, ?_, ?_⟩
  · exact Lib.BuilderAt.put (T := 239) (e := 5) hB hb2 (bs' := bs ++ [.int .u8 c]) (by simpa using hown') (by decide)
  · exact ((hb1.alloc (by have := hb1.size; omega) _).grown hgrow (by have := hb1.size; simp; omega) (fun k hk => (hown.lt k hk).1)).setCell (p := ⟨b, 1, none⟩) hB _
end Go.Proofs.YtlmhphejgahfbaaGreatDoor
