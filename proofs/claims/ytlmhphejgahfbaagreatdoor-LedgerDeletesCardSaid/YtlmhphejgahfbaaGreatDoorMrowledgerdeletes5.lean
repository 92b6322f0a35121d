/- Texts of this claim, one behind the other: Sha5, Build, Sha6, Sum. -/
import Derived.Test.YtlmhphejgahfbaaGreatDoorMrowledgerdeletes4
import Derived.Test.YtlmhphejgahfbaaGreatDoorShelf
import Derived.Test.YtlmhphejgahfbaaGreatDoorMrowledgerdeletes1
/- SHA-256: write. -/
set_option linter.unusedVariables false
set_option linter.unusedSimpArgs false
namespace Go.Proofs.YtlmhphejgahfbaaGreatDoor
open Go.RowKit

/-- Whole blocks are eaten; what is left. -/
def feed (H : Nat → W32) (q : Bs) : (Nat → W32) × Bs := if 64 ≤ q.length then feed (eatS H (q.take 64)) (q.drop 64) else (H, q)
termination_by q.length
decreasing_by simp; omega
theorem feed_lt {H : Nat → W32} {q : Bs} (h : ¬ 64 ≤ q.length) : feed H q = (H, q) := by rw [feed, if_neg h]
theorem feed_ge {H : Nat → W32} {q : Bs} (h : 64 ≤ q.length) : feed H q = feed (eatS H (q.take 64)) (q.drop 64) := by rw [feed, if_pos h]
theorem feed_short (H : Nat → W32) (q : Bs) : (feed H q).2.length < 64 := by
  induction hn : q.length using Nat.strongRecOn generalizing H q with
  | _ n ih =>
    by_cases h : 64 ≤ q.length
    · rw [feed_ge h]; exact ih _ (by simp; omega) _ _ rfl
    · rw [feed_lt h]; show q.length < 64; omega
theorem feed_append (H : Nat → W32) (a b : Bs) : feed (feed H a).1 ((feed H a).2 ++ b) = feed H (a ++ b) := by
  induction hn : a.length using Nat.strongRecOn generalizing H a with
  | _ n ih =>
    by_cases h : 64 ≤ a.length
    · rw [feed_ge h, feed_ge (q := a ++ b) (by rw [List.length_append]; omega), List.take_append_of_le_length h, List.drop_append_of_le_length h]
      exact ih _ (by simp; omega) _ _ rfl
    · rw [feed_lt h]

structure Hasher (w : World) (F : Nat → Prop) (hb : Nat) (H : Nat → W32) (ws : Bs) (n : Nat) : Prop where
  mem : F hb
  blk : ∃ wv, HB w hb H wv (.int .u64 (n : Int)) ∧ Wt w (fun i => F i ∧ i ≠ hb) wv ws
theorem Hasher.fr0 {w w' : World} {F : Nat → Prop} {hb : Nat} {H : Nat → W32} {ws : Bs} {n : Nat} (h : Hasher w F hb H ws n) (f : Fr No w w') : Hasher w' F hb H ws n := by
  obtain ⟨h1, wv, h2, h3⟩ := h
  exact ⟨h1, wv, h2.fr0 f, h3.fr0 f⟩
def waitLen (w : World) (hb : Nat) : Nat := match w.cell? ⟨hb, 8, none⟩ with | some (.slice _ n _) => n | _ => 0

set_option maxHeartbeats 4000000 in
set_option maxRecDepth 100000 in
theorem write_ok {w : World} {F G : Nat → Prop} {hb c n : Nat} {A : Option Addr} {p ws : Bs} {H : Nat → W32} (h : Hasher w F hb H ws n) (hr : Rd Ty.u8 w G A p) (hd : ∀ i, G i → ¬ F i) (hk : KAt w) (hF : ¬ F 0) (hl : ws.length + p.length ≤ 1000000000000) (hn : n + p.length ≤ 1000000000000) :
    Calls Tryz.prog 89 #[.pointer (some ⟨hb, 0, none⟩), .slice A p.length c] w fun e w' => e = .returned (.tuple #[]) ∧ Hasher w' (fun i => F i ∨ w.heap.size ≤ i) hb (feed H (ws ++ p)).1 (feed H (ws ++ p)).2 (n + p.length) ∧ Fr F w w' := by
  obtain ⟨hm, wv, hB, hW⟩ := h
  have hlt := hB.lt
  have hpl := hr.1
  have c9 := hB.num
  have c8 := hB.wait
  have z9 := hB.free 9
  have s1 : IntKind.u64.wrap (p.length : Int) = (p.length : Int) := by show (p.length : Int) % 18446744073709551616 = _; omega
  have s2 : IntKind.u64.wrap ((n : Int) + (p.length : Int)) = ((n + p.length : Nat) : Int) := by show ((n : Int) + (p.length : Int)) % 18446744073709551616 = _; omega
  obtain ⟨n', hn'⟩ : ∃ n', n + p.length = n' := ⟨_, rfl⟩
  rw [hn'] at s2
  have HN := Lib.hid hn'
  clear hn'
  obtain ⟨W1, hW1⟩ : ∃ W1, W1 = w.setCell ⟨hb, 9, none⟩ (.int .u64 (n' : Int)) := ⟨_, rfl⟩
  have hB1 : HB W1 hb H wv (.int .u64 (n' : Int)) := by rw [hW1]; exact hB.setNum _
  have hf1 : Fr (fun i => i = hb) w W1 := by rw [hW1]; exact Fr.set (F := fun i => i = hb) (Fr.refl (fun i => i = hb) w) ⟨hb, 9, none⟩ (.inl rfl) _
  have hWt1 := hW.fr hf1 (fun k hk => hk.2)
  obtain ⟨csp, hrow, hat⟩ := (hr.fr hf1 (fun i hi e => hd i hi (by rw [e]; exact hm))).at
  obtain rfl := row_cells8 hrow
  obtain ⟨v2, w2, hrun, hWt2, hf2⟩ := wt_append (c := c) hWt1 hat (by omega) 46
  obtain ⟨A2, c2, rfl, _, _⟩ := hWt2.form
  have hB2 := hB1.fr hf2 (fun h => h.2 rfl)
  have c8a := hB1.wait
  have z8 := hB2.free 8
  have c8b := hB2.wait
  have hB3 := hB2.setWait (.slice A2 (ws ++ p).length c2)
  have hf3 : Fr (fun i => i = hb) w2 (w2.setCell ⟨hb, 8, none⟩ (.slice A2 (ws ++ p).length c2)) := Fr.set (F := fun i => i = hb) (Fr.refl (fun i => i = hb) w2) ⟨hb, 8, none⟩ (.inl rfl) _
  have hWt3 := hWt2.fr hf3 (fun k hk e => by
    rcases hk with hk | hk
    · exact hk.2 e
    · have := hB1.lt; omega)
  have hF3 : Fr F w (w2.setCell ⟨hb, 8, none⟩ (.slice A2 (ws ++ p).length c2)) := ((hf1.mono fun i _ e => (by rw [e]; exact hm : F i)).trans (hf2.mono fun i _ hi => .inl hi.1)).trans (hf3.mono fun i _ e => .inl (by rw [e]; exact hm))
  have hs1 : W1.heap.size = w.heap.size := by rw [hW1]; simp [World.setCell]
  have HX := Lib.hid (And.intro hB3 (And.intro hWt3 (And.intro hF3 (And.intro hs1 (And.intro hm (And.intro hk hF))))))
  clear hm hB hW hB1 hf1 hWt1 hrow hat hWt2 hf2 hB2 hB3 hf3 hWt3 hF3 hr hd hk hF
  go_enter Tryz.func89, Tryz.ntmps89
  go_wp2_with (at_builtin; rw [← hW1]; refine wpList_plain rfl fun K hK => wp_append_run _ _ _ _ rfl rfl rfl hrun (hK _ _ ?_))
  obtain ⟨w3, hw3⟩ : ∃ w3, w3 = w2.setCell ⟨hb, 8, none⟩ (.slice A2 (ws ++ p).length c2) := ⟨_, rfl⟩
  rw [← hw3] at HX
  go_wp2_with fail
  rw [List.length_append] at hw3
  try rw [← hw3]
  clear hw3 hW1 c8 c9 z9 s1 s2 hrun c8a z8 c8b hs1
  go_loopw [23] (fun _ wr => Hid (∃ q H' wv, feed H' q = feed H (ws ++ p) ∧ HB wr hb H' wv (.int .u64 (n' : Int)) ∧ Wt wr (fun i => (F i ∨ w.heap.size ≤ i) ∧ i ≠ hb) wv q ∧ Fr F w wr)) (fun _ wr => waitLen wr hb)
  case atStart =>
    refine ⟨ws ++ p, H, _, rfl, HX.out.1, HX.out.2.1.mono fun i hi _ => ?_, HX.out.2.2.1⟩
    have hs := HX.out.2.2.2.1
    have := HX.out.2.2.1
    rcases hi with hi | hi
    · exact ⟨.inl hi.1, hi.2⟩
    · exact ⟨.inr (by omega), fun e => by have := hlt; omega⟩
  case round =>
    obtain ⟨q, H', wv', hq, hB, hW, hf⟩ := hrel.out
    obtain ⟨A3, c3, rfl, _, hq63⟩ := hW.form
    have c8 := hB.wait
    have hql : (q.length : Int) ≤ 9223372036854775807 := by omega
    have hq0 : (0 : Int) ≤ (q.length : Int) := Int.natCast_nonneg _
    have HQ := Lib.hid (And.intro hq (And.intro hB (And.intro hW hf)))
    by_cases h64 : 64 ≤ q.length
    · have h64i : (64 : Int) ≤ (q.length : Int) := by omega
      obtain ⟨_, hc64, hrd, hsl, A4, hsl2, hW4⟩ := hW.head h64
      have hkr := HX.out.2.2.2.2.2.1.fr hf HX.out.2.2.2.2.2.2
      have heat := eat_ok (c := c3) hrd (by rw [List.length_take]; omega) hkr hB (fun h => h.2 rfl) (fun e => HX.out.2.2.2.2.2.2 (by rw [← e]; exact HX.out.2.2.2.2.1))
      have HE := Lib.hid (And.intro heat hW4)
      clear hq hB hW hf hrd hkr heat hW4 hq63
      go_wp2_with fail
      refine HE.out.1.mono ?_
      rintro e5 w5 ⟨rfl, hB5, hf5⟩
      have c8 := hB5.wait
      have z8 := hB5.free 8
      have hB6 := hB5.setWait (.slice A4 (q.length - 64) (c3 - 64))
      have hf6 : Fr (fun i => i = hb) w5 (w5.setCell ⟨hb, 8, none⟩ (.slice A4 (q.length - 64) (c3 - 64))) := Fr.set (F := fun i => i = hb) (Fr.refl (fun i => i = hb) w5) ⟨hb, 8, none⟩ (.inl rfl) _
      have hW6 := (HE.out.2.fr hf5 fun k hk => hk.2).fr hf6 fun k hk => hk.2
      have H6 := Lib.hid (And.intro hB6 (And.intro hW6 (And.intro hf5 hf6)))
      clear hB5 hf5 hB6 hf6 hW6
      go_wp2_with fail
      go_roundw
      case rel =>
        have hm := HX.out.2.2.2.2.1
        exact ⟨q.drop 64, eatS H' (q.take 64), _, by rw [← feed_ge h64]; exact HQ.out.1, H6.out.1, H6.out.2.1, (HQ.out.2.2.2.trans (H6.out.2.2.1.mono fun i _ e => .inl (by rw [e]; exact hm))).trans (H6.out.2.2.2.mono fun i _ e => .inl (by rw [e]; exact hm))⟩
      case measure =>
        have e1 := H6.out.1.wait
        have e2 := HQ.out.2.1.wait
        unfold waitLen
        rw [e1, e2]
        dsimp only
        omega
    · have h64i : (q.length : Int) < 64 := by omega
      clear hq hB hW hf hq63
      go_wp2_with fail
      go_end0
      have e := HQ.out.1
      rw [feed_lt h64] at e
      rw [← e, HN.out]
      exact ⟨rfl, ⟨.inl HX.out.2.2.2.2.1, _, HQ.out.2.1, HQ.out.2.2.1⟩, HQ.out.2.2.2⟩
end Go.Proofs.YtlmhphejgahfbaaGreatDoor
/- strings.Builder: copyCheck and WriteByte at this program. -/
set_option linter.unusedVariables false
set_option linter.unusedSimpArgs false
namespace Go.Proofs.YtlmhphejgahfbaaGreatDoor
open Go.RowKit Go.Shelf

theorem sizeBuilder : (Tryz.prog.info? 239).map (·.size) = some 2 := by kernel_rfl
theorem liesBuilder : liesAt Tryz.prog Tryz.prog.depth 239 (2 / Tryz.prog.cellsOf 239) 0 239 1 = true := by kernel_rfl

set_option maxHeartbeats 1000000 in
set_option maxRecDepth 100000 in
theorem copy_used (b : Nat) (w : World) (h0 : w.cell? ⟨b, 0, none⟩ = some (.pointer (some ⟨b, 0, none⟩))) :
    Calls Tryz.prog 206 #[.pointer (some ⟨b, 0, none⟩)] w fun e w' => e = .returned (.tuple #[]) ∧ w' = w := by
  obtain ⟨j, hj, _⟩ := Option.map_eq_some_iff.1 sizeBuilder
  go_enter Tryz.func206, Tryz.ntmps206
  go_wp2
  rw [Lib.run_neq_ptr_same w _ Tryz.underlying237 hj]
  go_wp2
  go_end0
  exact ⟨rfl, rfl⟩

set_option maxHeartbeats 1000000 in
set_option maxRecDepth 100000 in
theorem copy_fresh (b : Nat) (w : World) (h0 : w.cell? ⟨b, 0, none⟩ = some (.pointer none)) (hsh : w.shape? b = some (239, 2)) (hfz : w.frozen? ⟨b, 0, none⟩ = false) :
    Calls Tryz.prog 206 #[.pointer (some ⟨b, 0, none⟩)] w fun e w' => e = .returned (.tuple #[]) ∧ w' = w.setCell ⟨b, 0, none⟩ (.pointer (some ⟨b, 0, none⟩)) := by
  obtain ⟨j, hj, hjs⟩ := Option.map_eq_some_iff.1 sizeBuilder
  go_enter Tryz.func206, Tryz.ntmps206
  go_wp2
  rw [Lib.run_to_unsafe w ⟨b, 0, none⟩ Tryz.underlying237 Tryz.underlying316 hj (by rw [hjs]; decide) hsh (Nat.zero_lt_succ 1)]
  simp only [Result.andThen]
  rw [Oper.upon_value]
  go_wp2
  rw [run_callFunc_extern Tryz.func234 (by kernel_rfl) (by kernel_rfl) (by kernel_rfl) (e := Extern.AbiNoEscape.same) (by kernel_rfl)]
  rw [Lib.run_noEscape]
  simp only [Result.andThen]
  rw [Oper.upon_value]
  go_wp2
  rw [Lib.run_from_unsafe w ⟨b, 0, none⟩ Tryz.underlying316 Tryz.underlying237 hj hsh liesBuilder]
  simp only [Result.andThen]
  rw [Oper.upon_value]
  go_wp2
  go_end0
  exact ⟨rfl, rfl⟩
theorem copy_check (B b : Nat) (bs : List Value) (w : World) (h : Lib.IsBuilder 239 5 B b bs w) :
    Calls Tryz.prog 206 #[.pointer (some ⟨b, 0, none⟩)] w fun e w' => e = .returned (.tuple #[]) ∧ (Lib.BuilderAt 239 5 B b (.pointer (some ⟨b, 0, none⟩)) bs w' ∧ Below B w w') := by
  rcases h with h | h
  · refine (copy_fresh b w h.cell0 h.shape h.frozen0).mono ?_
    rintro e w' ⟨rfl, rfl⟩
    exact ⟨rfl, h.used _, (Below.refl B w).setCell (p := ⟨b, 0, none⟩) h.1 _⟩
  · refine (copy_used b w h.cell0).mono ?_
    rintro e w' ⟨rfl, rfl⟩
    exact ⟨rfl, h, Below.refl B _⟩
set_option maxHeartbeats 1000000 in
set_option maxRecDepth 100000 in
theorem write_byte (B b : Nat) (bs : List Value) (c : Int) (w : World) (h : Lib.IsBuilder 239 5 B b bs w) (hlen : bs.length + 1 ≤ 140737488355328) (hBw : B ≤ w.heap.size) :
    Calls Tryz.prog 160 #[.pointer (some ⟨b, 0, none⟩), .int .u8 c] w fun e w' => e = .returned .nilIface ∧ (Lib.BuilderAt 239 5 B b (.pointer (some ⟨b, 0, none⟩)) (bs ++ [.int .u8 c]) w' ∧ Below B w w') := by
  have hinfo : (Tryz.prog.info? 5).map (fun i => (i.zero, i.size, i.bytes)) = some (some (.int .u8 0), 1, 1) := by kernel_rfl
  obtain ⟨i0, hi, hz0, hz1, hz2⟩ := info_parts hinfo
  have hcc := Lib.hid (copy_check B b bs w h)
  clear hinfo
  go_enter Tryz.func160, Tryz.ntmps160
  go_wp2_with fail
  refine hcc.out.mono ?_
  rintro e w1 ⟨rfl, h1, hb1⟩
  obtain ⟨hB, v, hbk, hown, hne⟩ := h1
  have c0 : w1.cell? ⟨b, 0, none⟩ = some (.pointer (some ⟨b, 0, none⟩)) := by rw [Lib.cell_of_heap hbk]; rfl
  have c1 : w1.cell? ⟨b, 1, none⟩ = some v := by rw [Lib.cell_of_heap hbk]; rfl
  go_wp2_with (at_builtin; refine wpList_append_own _ rfl _ _ 46 rfl B 5 i0 (.int .u8 0) 1 1 Tryz.underlying46 hi hz0 hz1 hz2 rfl (by decide) _ _ _ rfl (hown.alloc _) ⟨w1.heap.size, 0, none⟩ 1 1 [.int .u8 c] rfl rfl ?c1 ?c2 ?c3 ?c4 ?c5 ?_)
  case c1 =>
    intro j u hj
    match j, hj with
    | 0, hj => simp at hj; subst hj; simp [Addr.add]
  case c2 => intro u hu; simp at hu; subst hu; rfl
  case c3 => unfold maxLen; omega
  case c4 => omega
  case c5 => have := hb1.size; simp; omega
  intro v' w2 hown' hgrow _
  have hlt : b < w1.heap.size := by
    rcases Nat.lt_or_ge b w1.heap.size with h' | h'
    · exact h'
    · simp [Array.getElem?_eq_none h'] at hbk
  have hb2 : w2.heap[b]? = some (.cells #[.pointer (some ⟨b, 0, none⟩), v] 239 (0, 0)) := by
    rw [hgrow.block b (by simp; omega) (fun e => hne e.symm), Lib.alloc_old w1 _ b hlt]
    exact hbk
  have d0 : w2.cell? ⟨b, 0, none⟩ = some (.pointer (some ⟨b, 0, none⟩)) := by rw [Lib.cell_of_heap hb2]; rfl
  have d1 : w2.cell? ⟨b, 1, none⟩ = some v := by rw [Lib.cell_of_heap hb2]; rfl
  have f1 : w2.frozen? ⟨b, 1, none⟩ = false := Lib.frozen_of_heap hb2 1
  obtain ⟨g, cap, rfl⟩ : ∃ g cap, v' = .slice (some ⟨g, 0, none⟩) (bs.length + 1) cap := by
    rcases hown'.2 with ⟨_, h0⟩ | ⟨g, cap, cur, hv, _⟩
    · omega
    · exact ⟨g, cap, hv⟩
  go_wp2
  go_ret
  refine ⟨rfl, ?_, ?_⟩
  · exact Lib.BuilderAt.put (T := 239) (e := 5) hB hb2 (bs' := bs ++ [.int .u8 c]) (by simpa using hown') (by decide)
  · exact ((hb1.alloc (by have := hb1.size; omega) _).grown hgrow (by have := hb1.size; simp; omega) (fun k hk => (hown.lt k hk).1)).setCell (p := ⟨b, 1, none⟩) hB _
end Go.Proofs.YtlmhphejgahfbaaGreatDoor
/- SHA-256: one byte more; the end. -/
set_option linter.unusedVariables false
set_option linter.unusedSimpArgs false
namespace Go.Proofs.YtlmhphejgahfbaaGreatDoor
open Go.RowKit

theorem feed_len (H : Nat → W32) (q : Bs) : (feed H q).2.length = q.length % 64 := by
  induction hn : q.length using Nat.strongRecOn generalizing H q with
  | _ n ih =>
    by_cases h : 64 ≤ q.length
    · rw [feed_ge h, ih _ (by simp; omega) _ _ rfl, List.length_drop]; omega
    · rw [feed_lt h]; show q.length = n % 64; omega

/-- A hasher of one's own: all its blocks are new. -/
def Own (B : Nat) (w : World) (hb : Nat) (H : Nat → W32) (ws : Bs) (n : Nat) : Prop := ∃ F, Hasher w F hb H ws n ∧ ∀ i, F i → B ≤ i ∧ i < w.heap.size
theorem Hasher.own {B : Nat} {w : World} {F : Nat → Prop} {hb : Nat} {H : Nat → W32} {ws : Bs} {n : Nat} (h : Hasher w F hb H ws n) (k : ∀ i, F i → B ≤ i) : Own B w hb H ws n := by
  obtain ⟨hm, wv, h1, h2⟩ := h
  exact ⟨fun i => F i ∧ i < w.heap.size, ⟨⟨hm, h1.lt⟩, wv, h1, h2.mono fun i hi hl => ⟨⟨hi.1, hl⟩, hi.2⟩⟩, fun i hi => ⟨k i hi.1, hi.2⟩⟩
theorem Own.fr0 {B : Nat} {w w' : World} {hb : Nat} {H : Nat → W32} {ws : Bs} {n : Nat} (h : Own B w hb H ws n) (f : Fr No w w') : Own B w' hb H ws n := by
  obtain ⟨F, h1, h2⟩ := h
  exact ⟨F, h1.fr0 f, fun i hi => ⟨(h2 i hi).1, Nat.lt_of_lt_of_le (h2 i hi).2 f.size⟩⟩

/-- write, of what lies apart. -/
theorem own_write {B : Nat} {w : World} {G : Nat → Prop} {hb c n : Nat} {A : Option Addr} {p ws : Bs} {H : Nat → W32} (h : Own B w hb H ws n) (hr : Rd Ty.u8 w G A p) (hd : ∀ i, G i → i < B ∨ w.heap.size ≤ i) (hk : KAt w) (hB : 0 < B) (hl : ws.length + p.length ≤ 1000000000000) (hn : n + p.length ≤ 1000000000000) :
    Calls Tryz.prog 89 #[.pointer (some ⟨hb, 0, none⟩), .slice A p.length c] w fun e w' => e = .returned (.tuple #[]) ∧ Own B w' hb (feed H (ws ++ p)).1 (feed H (ws ++ p)).2 (n + p.length) ∧ Fr (fun i => B ≤ i) w w' := by
  obtain ⟨F, h1, h2⟩ := h
  have hsz : B ≤ w.heap.size := by have := (h2 hb h1.mem); omega
  refine (write_ok (c := c) h1 hr (fun i hi hf => ?_) hk (fun hf => by have := (h2 _ hf).1; omega) hl hn).mono ?_
  · rcases hd i hi with h | h
    · have := (h2 i hf).1; omega
    · have := (h2 i hf).2; omega
  · rintro e w' ⟨he, hh, hf⟩
    exact ⟨he, hh.own fun i hi => hi.elim (fun h => (h2 i h).1) (fun h => by omega), hf.mono fun i _ h => (h2 i h).1⟩
/-- One byte. -/
theorem own_write1 {B : Nat} {w : World} {hb n : Nat} {ws : Bs} {H : Nat → W32} {b : UInt8} (h : Own B w hb H ws n) (hk : KAt w) (hB : 0 < B) (hl : ws.length ≤ 100000000000) (hn : n ≤ 100000000000) :
    Calls Tryz.prog 89 #[.pointer (some ⟨hb, 0, none⟩), .slice (some ⟨w.heap.size, 0, none⟩) 1 1] (w.alloc (.cells #[.int .u8 (b.toNat : Int)] 5)) fun e w' => e = .returned (.tuple #[]) ∧ Own B w' hb (feed H (ws ++ [b])).1 (feed H (ws ++ [b])).2 (n + 1) ∧ Fr (fun i => B ≤ i) w w' := by
  have hfa : Fr No w (w.alloc (.cells #[.int .u8 (b.toNat : Int)] 5)) := (Fr.refl No w).alloc _
  have hsz : B ≤ w.heap.size := by obtain ⟨F, h1, h2⟩ := h; have := (h2 hb h1.mem); omega
  have hr : Rd Ty.u8 (w.alloc (.cells #[.int .u8 (b.toNat : Int)] 5)) (fun i => i = w.heap.size) (some ⟨w.heap.size, 0, none⟩) [b] := by
    refine ⟨by simp, [.int .u8 (b.toNat : Int)], cells8_row [b], fun j u hu => ⟨_, rfl, rfl, ?_⟩⟩
    rw [add0, blk_cell (heap_alloc_new w _)]
    simpa using hu
  obtain ⟨F, h1, h2⟩ := h
  refine (write_ok (c := 1) (h1.fr0 hfa) hr (fun i hi hf => ?_) (hk.fr0 hfa) (fun hf => by have := (h2 _ hf).1; omega) (by simp; omega) (by simp; omega)).mono ?_
  · have := (h2 i hf).2; omega
  · rintro e w' ⟨he, hh, hf⟩
    exact ⟨he, hh.own fun i hi => hi.elim (fun h => (h2 i h).1) (fun h => by simp at h; omega), (hfa.mono fun _ _ f => f.elim).trans (hf.mono fun i _ h => .inl (h2 i h).1)⟩

/-- What is behind the bytes: so that they are whole blocks. -/
def zeros (n : Nat) : Nat := (119 - n % 64) % 64
def be8 (n : Nat) : Bs := (List.range 8).map fun j => UInt8.ofNat (n / 2 ^ (56 - 8 * j))
def pad (p : Bs) : Bs := p ++ [128] ++ List.replicate (zeros p.length) 0 ++ be8 (8 * p.length)
def H0 : Nat → W32 := fun j => BitVec.ofNat 32 ([0x6a09e667, 0xbb67ae85, 0x3c6ef372, 0xa54ff53a, 0x510e527f, 0x9b05688c, 0x1f83d9ab, 0x5be0cd19].getD j 0)
def be4 (x : W32) : Bs := (List.range 4).map fun j => UInt8.ofNat (x.toNat / 2 ^ (24 - 8 * j))
def outB (H : Nat → W32) : Nat → Bs
  | 0 => []
  | k + 1 => outB H k ++ be4 (H k)
/-- SHA-256, as bytes, and as a text. -/
def shaB (p : Bs) : Bs := outB (feed H0 (pad p)).1 8
def sha (p : Bs) : ByteArray := ⟨(shaB p).toArray⟩

theorem zeros_lt (n : Nat) : zeros n < 64 := by unfold zeros; omega
theorem zeros_end (n j : Nat) (hj : j ≤ zeros n) : (n + 1 + j) % 64 = 56 ↔ j = zeros n := by unfold zeros at *; omega
theorem pad_len (p : Bs) : (pad p).length % 64 = 0 := by
  have : (be8 (8 * p.length)).length = 8 := by unfold be8; simp
  unfold pad
  simp only [List.length_append, List.length_replicate, this, List.length_singleton]
  unfold zeros
  omega
theorem mod8 (x : Nat) : ((UInt8.ofNat x).toNat : Int) = (x : Int) % 256 := by
  rw [UInt8.toNat_ofNat']; omega
theorem run_index_8 (S : Nat → W32) {i : Nat} (h : i < 8) (w : World) : (Instr.index 233 (.agg #[.int .u32 (U (S 0)), .int .u32 (U (S 1)), .int .u32 (U (S 2)), .int .u32 (U (S 3)), .int .u32 (U (S 4)), .int .u32 (U (S 5)), .int .u32 (U (S 6)), .int .u32 (U (S 7))]) (.int .i64 (i : Int))).run Tryz.prog w = .ok (.int .u32 (U (S i))) w := by
  have h0 : (0 : Int) ≤ (i : Int) ∧ (i : Int) < ((8 : Nat) : Int) := ⟨Int.natCast_nonneg _, by omega⟩
  simp only [Instr.index, asIntOf, Sem.run_bind, Sem.run_pure, Result.andThen_ok, run_underlying Tryz.underlying233, Tryz.sizeOf161]
  rw [if_pos h0]
  match i, h with
  | 0, _ | 1, _ | 2, _ | 3, _ | 4, _ | 5, _ | 6, _ | 7, _ => simp [part, Tryz.isAgg161, Tryz.sizeOf161]
  | n + 8, h => exact absurd h (by omega)
theorem builder_new (w : World) : Lib.IsBuilder 239 5 w.heap.size w.heap.size [] (w.alloc (.cells #[.pointer none, .slice none 0 0] 239)) :=
  .inl ⟨Nat.le_refl _, .slice none 0 0, heap_alloc_new w _, World.ownsRow_nil _ _ _ _, by simp [Value.ownBlock]⟩
theorem outB_len (H : Nat → W32) (k : Nat) : (outB H k).length = 4 * k := by
  induction k with
  | zero => rfl
  | succ k ih => show (outB H k ++ be4 (H k)).length = _; rw [List.length_append, ih]; unfold be4; simp; omega

set_option maxHeartbeats 4000000 in
set_option maxRecDepth 100000 in
theorem end_ok {B : Nat} {w : World} {hb : Nat} {p : Bs} (h : Own B w hb (feed H0 p).1 (feed H0 p).2 p.length) (hk : KAt w) (hB : 0 < B) (hp : p.length ≤ 10000000000) :
    Calls Tryz.prog 90 #[.pointer (some ⟨hb, 0, none⟩)] w fun e w' => e = .returned (.string (sha p)) ∧ Fr (fun i => B ≤ i) w w' := by
  have hsz : B ≤ w.heap.size := by obtain ⟨F, h1, h2⟩ := h; have := (h2 hb h1.mem); omega
  have c9 : w.cell? ⟨hb, 9, none⟩ = some (.int .u64 (p.length : Int)) := by obtain ⟨F, ⟨_, wv, h1, _⟩, _⟩ := h; exact h1.num
  have s1 : IntKind.u64.wrap ((p.length : Int) * 8) = ((8 * p.length : Nat) : Int) := by show ((p.length : Int) * 8) % 18446744073709551616 = _; omega
  obtain ⟨n8, hn8⟩ : ∃ n8, 8 * p.length = n8 := ⟨_, rfl⟩
  rw [hn8] at s1
  have hw1 := own_write1 (b := 128) h hk hB (by have := feed_short H0 p; omega) (by omega)
  rw [feed_append] at hw1
  have H := Lib.hid (And.intro hw1 (And.intro hk (And.intro hB (And.intro hsz hn8))))
  clear hw1 hk hB h hn8
  go_enter Tryz.func90, Tryz.ntmps90
  go_wp2_with fail
  refine H.out.1.mono ?_
  rintro e1 w1 ⟨rfl, hO1, hf1⟩
  have H1 := Lib.hid (And.intro hO1 hf1)
  clear hO1 hf1
  go_wp2_with fail
  go_loopw [17] (fun _ wr => Hid (∃ j, j ≤ zeros p.length ∧ Own B wr hb (feed H0 (p ++ [128] ++ List.replicate j 0)).1 (feed H0 (p ++ [128] ++ List.replicate j 0)).2 (p.length + 1 + j) ∧ Fr (fun i => B ≤ i) w wr)) (fun _ wr => (120 - waitLen wr hb) % 64)
  case atStart => exact ⟨0, Nat.zero_le _, by simpa using H1.out.1, H1.out.2⟩
  case round =>
    obtain ⟨j, hj, hO, hf⟩ := hrel.out
    have hkr : KAt wr := H.out.2.1.fr hf (fun h => by have := H.out.2.2.1; omega)
    have hwt : ∃ A c, wr.cell? ⟨hb, 8, none⟩ = some (.slice A ((p.length + 1 + j) % 64) c) := by
      obtain ⟨F, ⟨_, wv, h1, h2⟩, _⟩ := hO
      obtain ⟨A, c, rfl, _, _⟩ := h2.form
      have := h1.wait
      rw [feed_len] at this
      simp only [List.length_append, List.length_replicate, List.length_singleton] at this
      exact ⟨A, c, this⟩
    obtain ⟨A, c, c8⟩ := hwt
    obtain ⟨L, hL⟩ : ∃ L, (p.length + 1 + j) % 64 = L := ⟨_, rfl⟩
    rw [hL] at c8
    have hL64 : L < 64 := by omega
    have hLi : (L : Int) < 64 := by omega
    have hL0 : (0 : Int) ≤ (L : Int) := Int.natCast_nonneg _
    by_cases h56 : L = 56
    · subst h56
      obtain rfl : j = zeros p.length := (zeros_end p.length j hj).1 hL
      obtain ⟨q, hq⟩ : ∃ q, p ++ [128] ++ List.replicate (zeros p.length) 0 = q := ⟨_, rfl⟩
      have hql : q.length = p.length + 1 + zeros p.length := by rw [← hq]; simp; omega
      have hpad : pad p = q ++ be8 n8 := by unfold pad; rw [hq, H.out.2.2.2.2]
      rw [hq, ← hql] at hO
      have hq7 : q.length ≤ 20000000000 := by have := zeros_lt p.length; omega
      have H3 := Lib.hid (And.intro hO (And.intro hf hpad))
      clear hO hf hkr hL hq hql hpad hj hLi hL0 hL64
      go_wp2_with fail
      clear c8
      obtain ⟨w3, hw3⟩ : ∃ w3 : World, w3 = wr := ⟨_, rfl⟩
      subst hw3
      go_loopw [4] (fun s wr => ∃ (j : Nat) (d : Int), j ≤ 8 ∧ d = 56 - 8 * (j : Int) ∧ s = .int .i64 d ∧ Hid (Own B wr hb (feed H0 (q ++ (be8 n8).take j)).1 (feed H0 (q ++ (be8 n8).take j)).2 (q.length + j) ∧ Fr (fun i => B ≤ i) w wr)) (fun s _ => (intOf s + 8).toNat)
      case atStart => exact ⟨0, 56, by omega, by simp, rfl, by simpa using H3.out.1, H3.out.2.1⟩
      case round =>
        obtain ⟨j, d, hj, hd, rfl, J⟩ := hrel
        by_cases hlt : j < 8
        · have hd0 : 0 ≤ d := by omega
          have hd1 : d ≤ 56 := by omega
          have hbl : (be8 n8).length = 8 := by unfold be8; simp
          have hb : (be8 n8)[j]'(by omega) = UInt8.ofNat (n8 / 2 ^ (56 - 8 * j)) := by unfold be8; simp
          obtain ⟨x, hx⟩ : ∃ x, n8 / 2 ^ (56 - 8 * j) = x := ⟨_, rfl⟩
          have qw : ((UInt8.ofNat x).toNat : Int) = (n8 : Int) / 2 ^ d.toNat % 256 := by
            have e : d.toNat = 56 - 8 * j := by omega
            rw [mod8, ← hx, e, Int.natCast_ediv, Int.natCast_pow]
            rfl
          have hkr : KAt wr := H.out.2.1.fr J.out.2 (fun h => by have := H.out.2.2.1; omega)
          have hw := own_write1 (b := UInt8.ofNat x) J.out.1 hkr H.out.2.2.1 (by have := feed_short H0 (q ++ (be8 n8).take j); omega) (by omega)
          rw [hx] at hb
          rw [feed_append, List.append_assoc, ← hb, ← List.take_succ_eq_append_getElem (by omega), hb] at hw
          obtain ⟨b, hbb⟩ : ∃ b, UInt8.ofNat x = b := ⟨_, rfl⟩
          rw [hbb] at hw qw
          rw [qw] at hw
          have HW := Lib.hid (And.intro hw (And.intro J.out.2 hd))
          clear hw hb hx hbb hkr hd qw
          go_wp2_with fail
          refine HW.out.1.mono ?_
          rintro e2 w2 ⟨rfl, hO2, hf2⟩
          have H2 := Lib.hid (And.intro hO2 (HW.out.2.1.trans (hf2.mono fun i _ h => .inl h)))
          clear hO2 hf2
          go_wp2_with fail
          go_roundw
          case rel => exact ⟨j + 1, d - 8, by omega, by have := HW.out.2.2; omega, rfl, by rw [← Nat.add_assoc]; exact H2.out.1, H2.out.2⟩
          case measure => simp [intOf]; omega
        · obtain rfl : j = 8 := by omega
          have hd0 : d < 0 := by omega
          have hbl : (be8 n8).take 8 = be8 n8 := List.take_of_length_le (by unfold be8; simp)
          have hO := J.out.1
          rw [hbl, ← H3.out.2.2] at hO
          obtain ⟨HF, hHF⟩ : ∃ HF, (feed H0 (pad p)).1 = HF := ⟨_, rfl⟩
          rw [hHF] at hO
          have hcell : ∀ (w' : World) (i : Nat), i < 8 → Fr No wr w' → w'.cell? ⟨hb, i, none⟩ = some (.int .u32 (U (HF i))) := fun w' i hi f => by
            obtain ⟨F, ⟨_, wv, h1, _⟩, _⟩ := hO
            exact (h1.fr0 f).cell hi
          obtain ⟨W, hW⟩ : ∃ W, W = wr.alloc (.cells #[.pointer none, .slice none 0 0] 239) := ⟨_, rfl⟩
          have hfW : Fr No wr W := by rw [hW]; exact (Fr.refl No wr).alloc _
          have g0 := hcell W 0 (by decide) hfW
          have g1 := hcell W 1 (by decide) hfW
          have g2 := hcell W 2 (by decide) hfW
          have g3 := hcell W 3 (by decide) hfW
          have g4 := hcell W 4 (by decide) hfW
          have g5 := hcell W 5 (by decide) hfW
          have g6 := hcell W 6 (by decide) hfW
          have g7 := hcell W 7 (by decide) hfW
          rw [hW] at g0 g1 g2 g3 g4 g5 g6 g7
          have hbn := builder_new wr
          rw [← hW] at hbn
          have hix := fun i hi w => run_index_8 HF (i := i) hi w
          obtain ⟨kv, hkv⟩ : ∃ kv, Value.agg #[.int .u32 (U (HF 0)), .int .u32 (U (HF 1)), .int .u32 (U (HF 2)), .int .u32 (U (HF 3)), .int .u32 (U (HF 4)), .int .u32 (U (HF 5)), .int .u32 (U (HF 6)), .int .u32 (U (HF 7))] = kv := ⟨_, rfl⟩
          simp only [hkv] at hix
          have HX := Lib.hid (And.intro hbn (And.intro hix (And.intro J.out.2 (And.intro hHF (And.intro hfW.to_below hkv)))))
          clear hd hbl hO hHF hcell hfW hbn hix hkv
          go_wp2_with fail
          rw [HX.out.2.2.2.2.2]
          have hI0 : Lib.IsBuilder 239 5 wr.heap.size wr.heap.size (Lib.byteCells (outB HF 0)) (wr.alloc (.cells #[.pointer none, .slice none 0 0] 239)) ∧ Below wr.heap.size wr (wr.alloc (.cells #[.pointer none, .slice none 0 0] 239)) := by
            rw [← hW]; exact ⟨HX.out.1, HX.out.2.2.2.2.1⟩
          have HI0 := Lib.hid hI0
          clear hI0 g0 g1 g2 g3 g4 g5 g6 g7
          obtain ⟨w4, hw4⟩ : ∃ w4 : World, w4 = wr := ⟨_, rfl⟩
          subst hw4
          go_loopw [41] (fun s wr => ∃ k : Nat, k ≤ 8 ∧ s = .int .i64 (k : Int) ∧ Hid (Lib.IsBuilder 239 5 w4.heap.size w4.heap.size (Lib.byteCells (outB HF k)) wr ∧ Below w4.heap.size w4 wr)) (fun s _ => (8 - intOf s).toNat)
          case atStart => exact ⟨0, by omega, rfl, HI0.out.1, HI0.out.2⟩
          case round =>
            obtain ⟨k, hk8, rfl, J4⟩ := hrel
            have hk0 : (0 : Int) ≤ (k : Int) := Int.natCast_nonneg _
            by_cases hlt4 : k < 8
            · have hk1 : (k : Int) < 8 := by omega
              have hki := fun w => HX.out.2.1 k hlt4 w
              go_wp2_with fail
              obtain ⟨w5, hw5⟩ : ∃ w5 : World, w5 = wr := ⟨_, rfl⟩
              subst hw5
              go_loopw [8] (fun s wr => ∃ (j : Nat) (d : Int), j ≤ 4 ∧ d = 24 - 8 * (j : Int) ∧ s = .int .i64 d ∧ Hid (Lib.IsBuilder 239 5 w4.heap.size w4.heap.size (Lib.byteCells (outB HF k ++ (be4 (HF k)).take j)) wr ∧ Below w4.heap.size w4 wr)) (fun s _ => (intOf s + 8).toNat)
              case atStart => exact ⟨0, 24, by omega, by simp, rfl, by simpa using J4.out.1, J4.out.2⟩
              case round =>
                obtain ⟨j, d, hj, hd, rfl, J5⟩ := hrel
                have hbl : (be4 (HF k)).length = 4 := by unfold be4; simp
                by_cases hlt : j < 4
                · have hd0 : 0 ≤ d := by omega
                  have hd1 : d ≤ 24 := by omega
                  have hb4 : (be4 (HF k))[j]'(by omega) = UInt8.ofNat ((HF k).toNat / 2 ^ (24 - 8 * j)) := by unfold be4; simp
                  obtain ⟨x, hx⟩ : ∃ x, (HF k).toNat / 2 ^ (24 - 8 * j) = x := ⟨_, rfl⟩
                  have qw : ((UInt8.ofNat x).toNat : Int) = U (HF k) / 2 ^ d.toNat % 256 := by
                    have e : d.toNat = 24 - 8 * j := by omega
                    rw [mod8, ← hx, e, Int.natCast_ediv, Int.natCast_pow]
                    rfl
                  have hl := outB_len HF k
                  have hw := write_byte w4.heap.size w4.heap.size _ ((UInt8.ofNat x).toNat : Int) wr J5.out.1 (by unfold Lib.byteCells; simp [hl, hbl]; omega) J5.out.2.size
                  have ebytes : Lib.byteCells (outB HF k ++ (be4 (HF k)).take j) ++ [.int .u8 ((UInt8.ofNat x).toNat : Int)] = Lib.byteCells (outB HF k ++ (be4 (HF k)).take (j + 1)) := by
                    rw [List.take_succ_eq_append_getElem (by omega), hb4, hx]
                    unfold Lib.byteCells
                    simp
                  rw [ebytes] at hw
                  obtain ⟨b, hbb⟩ : ∃ b, UInt8.ofNat x = b := ⟨_, rfl⟩
                  rw [hbb] at hw qw
                  rw [qw] at hw
                  have HW := Lib.hid (And.intro hw (And.intro J5.out.2 hd))
                  clear hw hb4 hx hbb hd ebytes hl hbl qw
                  go_wp2_with fail
                  refine HW.out.1.mono ?_
                  rintro e2 w2 ⟨rfl, hO2, hf2⟩
                  have H2 := Lib.hid (And.intro hO2 (HW.out.2.1.trans hf2))
                  clear hO2 hf2
                  go_wp2_with fail
                  go_roundw
                  case rel => exact ⟨j + 1, d - 8, by omega, by have := HW.out.2.2; omega, rfl, .inr H2.out.1, H2.out.2⟩
                  case measure => simp [intOf]; omega
                · obtain rfl : j = 4 := by omega
                  have hd0 : d < 0 := by omega
                  have ht4 : (be4 (HF k)).take 4 = be4 (HF k) := List.take_of_length_le (by omega)
                  have J6 := J5
                  rw [ht4] at J6
                  clear hd J5 ht4
                  go_wp2_with fail
                  go_roundw
                  case rel => exact ⟨k + 1, by omega, by go_num, J6.out.1, J6.out.2⟩
                  case measure => simp [intOf]; omega
            · obtain rfl : k = 8 := by omega
              have hstr := Go.Proofs.Tryz.Builder_String w4.heap.size w4.heap.size _ wr J4.out.1 (by intro e; have := outB_len HF 8; rw [e] at this; simp at this)
              have HS := Lib.hid hstr
              clear hstr
              go_wp2_with fail
              refine HS.out.mono ?_
              rintro e2 w2 ⟨rfl, hb2⟩
              go_wp2_with fail
              go_ret
              have hb3 := J4.out.2.trans hb2
              exact ⟨by rw [← HX.out.2.2.2.1]; rfl, HX.out.2.2.1.trans ((Fr.below hb3).mono fun _ _ f => f.elim)⟩
    · have hne : ((L : Int) == 56) = false := beq_eq_false_iff_ne.2 (by omega)
      have hne2 : ((L : Int) != 56) = true := by rw [bne, hne]; rfl
      have hjz : j < zeros p.length := by
        have := (zeros_end p.length j hj)
        rw [hL] at this
        omega
      have hw := own_write1 (b := 0) hO hkr H.out.2.2.1 (by have := feed_short H0 (p ++ [128] ++ List.replicate j 0); omega) (by have := zeros_lt p.length; omega)
      rw [feed_append, List.append_assoc (p ++ [128]), ← List.replicate_succ'] at hw
      have hwl : waitLen wr hb = L := by unfold waitLen; rw [c8]
      have HW := Lib.hid (And.intro hw (And.intro hf (And.intro hL hwl)))
      clear hw hf hO hkr hL hwl
      go_wp2_with fail
      refine HW.out.1.mono ?_
      rintro e2 w2 ⟨rfl, hO2, hf2⟩
      have H2 := Lib.hid (And.intro hO2 (HW.out.2.1.trans (hf2.mono fun i _ h => .inl h)))
      clear hO2 hf2
      go_wp2_with fail
      go_roundw
      case rel => exact ⟨j + 1, hjz, H2.out.1, H2.out.2⟩
      case measure =>
        have hl2 : waitLen w2 hb = (L + 1) % 64 := by
          obtain ⟨F, ⟨_, wv, h1, h2⟩, _⟩ := H2.out.1
          obtain ⟨A', c', rfl, _, _⟩ := h2.form
          have := h1.wait
          unfold waitLen
          rw [this]
          show (feed H0 (p ++ [128] ++ List.replicate (j + 1) 0)).2.length = _
          rw [feed_len]
          simp only [List.length_append, List.length_replicate, List.length_singleton]
          have := HW.out.2.2.1
          omega
        rw [hl2, HW.out.2.2.2]
        omega
end Go.Proofs.YtlmhphejgahfbaaGreatDoor
/- SHA-256: Sum. -/
set_option linter.unusedVariables false
set_option linter.unusedSimpArgs false
namespace Go.Proofs.YtlmhphejgahfbaaGreatDoor
open Go.RowKit

/-- The block of a hasher in which nothing has come. -/
def freshObj : Obj := .cells #[.int .u32 1779033703, .int .u32 3144134277, .int .u32 1013904242, .int .u32 2773480762, .int .u32 1359893119, .int .u32 2600822924, .int .u32 528734635, .int .u32 1541459225, .slice none 0 0, .int .u64 0] 235

set_option maxHeartbeats 1000000 in
set_option maxRecDepth 100000 in
theorem fresh_ok (w : World) : Calls Tryz.prog 88 #[] w fun e w' => e = .returned (.pointer (some ⟨w.heap.size, 0, none⟩)) ∧ w' = w.alloc freshObj := by
  go_enter Tryz.func88, Tryz.ntmps88
  go_wp2_with fail
  go_ret
  first | exact ⟨rfl, rfl⟩ | rfl

theorem fresh_own (w : World) : Own w.heap.size (w.alloc freshObj) w.heap.size H0 [] 0 := by
  refine ⟨fun i => i = w.heap.size, ⟨rfl, .slice none 0 0, ⟨_, heap_alloc_new w _, rfl, fun j hj => ?_, rfl, rfl⟩, .inl ⟨rfl, rfl⟩⟩, fun i hi => by subst hi; simp⟩
  match j, hj with
  | 0, _ | 1, _ | 2, _ | 3, _ | 4, _ | 5, _ | 6, _ | 7, _ => rfl
  | n + 8, h => exact absurd h (by omega)

theorem Rd.here {α : Type} {t : Ty α} {w : World} {F : Nat → Prop} {A : Option Addr} {xs : List α} (h : Rd t w F A xs) : Rd t w (fun i => F i ∧ i < w.heap.size) A xs := h.mono fun _ a b => ⟨a, b⟩
theorem KAt.lt {w : World} (h : KAt w) : 0 < w.heap.size := World.block_lt_of_cell? w _ (h 0 (by decide))

set_option maxHeartbeats 1000000 in
set_option maxRecDepth 100000 in
theorem sum_ok {w : World} {G : Nat → Prop} {A : Option Addr} {c : Nat} {p : Bs} (hr : Rd Ty.u8 w G A p) (hk : KAt w) (hp : p.length ≤ 10000000000) :
    Calls Tryz.prog 39 #[.slice A p.length c] w fun e w' => e = .returned (.string (sha p)) ∧ Fr No w w' := by
  obtain ⟨W, hW⟩ : ∃ W, W = w.alloc freshObj := ⟨_, rfl⟩
  have hfa : Fr No w W := by rw [hW]; exact (Fr.refl No w).alloc _
  have hf := fresh_ok w
  have hO := fresh_own w
  rw [← hW] at hf hO
  have hw := own_write (c := c) hO (hr.here.fr0 hfa) (fun i hi => .inl hi.2) (hk.fr0 hfa) hk.lt (by simp; omega) (by omega)
  rw [List.nil_append, Nat.zero_add] at hw
  have HH := Lib.hid (And.intro hf (And.intro hw (And.intro hfa (And.intro hk hk.lt))))
  clear hf hO hw hfa hr hk hW
  go_enter Tryz.func39, Tryz.ntmps39
  go_wp2_with fail
  refine HH.out.1.mono ?_
  rintro e1 w1 ⟨rfl, rfl⟩
  go_wp2_with fail
  refine HH.out.2.1.mono ?_
  rintro e2 w2 ⟨rfl, hO2, hf2⟩
  have hk2 : KAt w2 := (HH.out.2.2.2.1.fr0 HH.out.2.2.1).fr hf2 (fun h => by have := HH.out.2.2.2.2; omega)
  have hend := end_ok hO2 hk2 HH.out.2.2.2.2 hp
  have HE := Lib.hid (And.intro hend hf2)
  clear hend hO2 hf2 hk2
  go_wp2_with fail
  refine HE.out.1.mono ?_
  rintro e3 w3 ⟨rfl, hf3⟩
  go_wp2_with fail
  go_ret
  exact ⟨rfl, HH.out.2.2.1.trans ((HE.out.2.trans (hf3.mono fun i _ h => .inl h)).mono fun i _ h => .inr h)⟩
end Go.Proofs.YtlmhphejgahfbaaGreatDoor
