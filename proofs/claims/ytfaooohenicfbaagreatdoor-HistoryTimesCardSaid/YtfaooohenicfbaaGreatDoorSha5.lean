/- SHA-256: write. -/
import Derived.Test.YtfaooohenicfbaaGreatDoorWait
set_option linter.unusedVariables false
set_option linter.unusedSimpArgs false
namespace Go.Proofs.YtfaooohenicfbaaGreatDoor
open Go.RowKit

/-- Whole blocks are eaten; what is left. -/
def feed (H : Nat → W32) (q : Bs) : (Nat → W32) × Bs := if 64 ≤ q.length then feed (eatS H (q.take 64)) (q.drop 64) else (H, q)
termination_by q.length
decreasing_by simp; omega
theorem feed_lt {H : Nat → W32} {q : Bs} (h : ¬ 64 ≤ q.length) : feed H q = (H, q) := by rw [feed, if_neg h]
theorem feed_ge {H : Nat → W32} {q : Bs} (h : 64 ≤ q.length) : feed H q = feed (eatS H (q.take 64)) (q.drop 64) := by rw [feed, if_pos h]
theorem feed_short (H : Nat → W32) (q : Bs) : (feed H q).2.length < 64 := by
  induction hn : q.length using Nat.strongRecOn generalizing H q with
  | _ n ih =>
    by_cases h : 64 ≤ q.length
    · rw [feed_ge h]; exact ih _ (by simp; omega) _ _ rfl
    · rw [feed_lt h]; show q.length < 64; omega
theorem feed_append (H : Nat → W32) (a b : Bs) : feed (feed H a).1 ((feed H a).2 ++ b) = feed H (a ++ b) := by
  induction hn : a.length using Nat.strongRecOn generalizing H a with
  | _ n ih =>
    by_cases h : 64 ≤ a.length
    · rw [feed_ge h, feed_ge (q := a ++ b) (by rw [List.length_append]; omega), List.take_append_of_le_length h, List.drop_append_of_le_length h]
      exact ih _ (by simp; omega) _ _ rfl
    · rw [feed_lt h]

structure Hasher (w : World) (F : Nat → Prop) (hb : Nat) (H : Nat → W32) (ws : Bs) (n : Nat) : Prop where
  mem : F hb
  blk : ∃ wv, HB w hb H wv (.int .u64 (n : Int)) ∧ Wt w (fun i => F i ∧ i ≠ hb) wv ws
theorem Hasher.fr0 {w w' : World} {F : Nat → Prop} {hb : Nat} {H : Nat → W32} {ws : Bs} {n : Nat} (h : Hasher w F hb H ws n) (f : Fr No w w') : Hasher w' F hb H ws n := by
  obtain ⟨h1, wv, h2, h3⟩ := h
  exact ⟨h1, wv, h2.fr0 f, h3.fr0 f⟩
def waitLen (w : World) (hb : Nat) : Nat := match w.cell? ⟨hb, 8, none⟩ with | some (.slice _ n _) => n | _ => 0

set_option maxHeartbeats 4000000 in
set_option maxRecDepth 100000 in
theorem write_ok {w : World} {F G : Nat → Prop} {hb c n : Nat} {A : Option Addr} {p ws : Bs} {H : Nat → W32} (h : Hasher w F hb H ws n) (hr : Rd Ty.u8 w G A p) (hd : ∀ i, G i → ¬ F i) (hk : KAt w) (hF : ¬ F 0) (hl : ws.length + p.length ≤ 1000000000000) (hn : n + p.length ≤ 1000000000000) :
    Calls Tryz.prog 63 #[.pointer (some ⟨hb, 0, none⟩), .slice A p.length c] w fun e w' => e = .returned (.tuple #[]) ∧ Hasher w' (fun i => F i ∨ w.heap.size ≤ i) hb (feed H (ws ++ p)).1 (feed H (ws ++ p)).2 (n + p.length) ∧ Fr F w w' := by
  obtain ⟨hm, wv, hB, hW⟩ := h
  have hlt := hB.lt
  have hpl := hr.1
  have c9 := hB.num
  have c8 := hB.wait
  have z9 := hB.free 9
  have s1 : IntKind.u64.wrap (p.length : Int) = (p.length : Int) := by show (p.length : Int) % 18446744073709551616 = _; omega
  have s2 : IntKind.u64.wrap ((n : Int) + (p.length : Int)) = ((n + p.length : Nat) : Int) := by show ((n : Int) + (p.length : Int)) % 18446744073709551616 = _; omega
  obtain ⟨n', hn'⟩ : ∃ n', n + p.length = n' := ⟨_, rfl⟩
  rw [hn'] at s2
  have HN := Lib.hid hn'
  clear hn'
  obtain ⟨W1, hW1⟩ : ∃ W1, W1 = w.setCell ⟨hb, 9, none⟩ (.int .u64 (n' : Int)) := ⟨_, rfl⟩
  have hB1 : HB W1 hb H wv (.int .u64 (n' : Int)) := by rw [hW1]; exact hB.setNum _
  have hf1 : Fr (fun i => i = hb) w W1 := by rw [hW1]; exact Fr.set (F := fun i => i = hb) (Fr.refl (fun i => i = hb) w) ⟨hb, 9, none⟩ (.inl rfl) _
  have hWt1 := hW.fr hf1 (fun k hk => hk.2)
  obtain ⟨csp, hrow, hat⟩ := (hr.fr hf1 (fun i hi e => hd i hi (by rw [e]; exact hm))).at
  obtain rfl := row_cells8 hrow
  obtain ⟨v2, w2, hrun, hWt2, hf2⟩ := wt_append (c := c) hWt1 hat (by omega) 33
  obtain ⟨A2, c2, rfl, _, _⟩ := hWt2.form
  have hB2 := hB1.fr hf2 (fun h => h.2 rfl)
  have c8a := hB1.wait
  have z8 := hB2.free 8
  have c8b := hB2.wait
  have hB3 := hB2.setWait (.slice A2 (ws ++ p).length c2)
  have hf3 : Fr (fun i => i = hb) w2 (w2.setCell ⟨hb, 8, none⟩ (.slice A2 (ws ++ p).length c2)) := Fr.set (F := fun i => i = hb) (Fr.refl (fun i => i = hb) w2) ⟨hb, 8, none⟩ (.inl rfl) _
  have hWt3 := hWt2.fr hf3 (fun k hk e => by
    rcases hk with hk | hk
    · exact hk.2 e
    · have := hB1.lt; omega)
  have hF3 : Fr F w (w2.setCell ⟨hb, 8, none⟩ (.slice A2 (ws ++ p).length c2)) := ((hf1.mono fun i _ e => (by rw [e]; exact hm : F i)).trans (hf2.mono fun i _ hi => .inl hi.1)).trans (hf3.mono fun i _ e => .inl (by rw [e]; exact hm))
  have hs1 : W1.heap.size = w.heap.size := by rw [hW1]; simp [World.setCell]
  have HX := Lib.hid (And.intro hB3 (And.intro hWt3 (And.intro hF3 (And.intro hs1 (And.intro hm (And.intro hk hF))))))
  clear hm hB hW hB1 hf1 hWt1 hrow hat hWt2 hf2 hB2 hB3 hf3 hWt3 hF3 hr hd hk hF
  go_enter Tryz.func63, Tryz.ntmps63
  go_wp2_with (at_builtin; rw [← hW1]; refine wpList_plain rfl fun K hK => wp_append_run _ _ _ _ rfl rfl rfl hrun (hK _ _ ?_))
  obtain ⟨w3, hw3⟩ : ∃ w3, w3 = w2.setCell ⟨hb, 8, none⟩ (.slice A2 (ws ++ p).length c2) := ⟨_, rfl⟩
  rw [← hw3] at HX
  go_wp2_with fail
  rw [List.length_append] at hw3
  try rw [← hw3]
  clear hw3 hW1 c8 c9 z9 s1 s2 hrun c8a z8 c8b hs1
  go_loopw [23] (fun _ wr => Hid (∃ q H' wv, feed H' q = feed H (ws ++ p) ∧ HB wr hb H' wv (.int .u64 (n' : Int)) ∧ Wt wr (fun i => (F i ∨ w.heap.size ≤ i) ∧ i ≠ hb) wv q ∧ Fr F w wr)) (fun _ wr => waitLen wr hb)
  case atStart =>
    refine ⟨ws ++ p, H, _, rfl, HX.out.1, HX.out.2.1.mono fun i hi _ => ?_, HX.out.2.2.1⟩
    have hs := HX.out.2.2.2.1
    have := HX.out.2.2.1
    rcases hi with hi | hi
    · exact ⟨.inl hi.1, hi.2⟩
    · exact ⟨.inr (by omega), fun e => by have := hlt; omega⟩
  case round =>
    obtain ⟨q, H', wv', hq, hB, hW, hf⟩ := hrel.out
    obtain ⟨A3, c3, rfl, _, hq63⟩ := hW.form
    have c8 := hB.wait
    have hql : (q.length : Int) ≤ 9223372036854775807 := by omega
    have hq0 : (0 : Int) ≤ (q.length : Int) := Int.natCast_nonneg _
    have HQ := Lib.hid (And.intro hq (And.intro hB (And.intro hW hf)))
    by_cases h64 : 64 ≤ q.length
    · have h64i : (64 : Int) ≤ (q.length : Int) := by omega
      obtain ⟨_, hc64, hrd, hsl, A4, hsl2, hW4⟩ := hW.head h64
      have hkr := HX.out.2.2.2.2.2.1.fr hf HX.out.2.2.2.2.2.2
      have heat := eat_ok (c := c3) hrd (by rw [List.length_take]; omega) hkr hB (fun h => h.2 rfl) (fun e => HX.out.2.2.2.2.2.2 (by rw [← e]; exact HX.out.2.2.2.2.1))
      have HE := Lib.hid (And.intro heat hW4)
      clear hq hB hW hf hrd hkr heat hW4 hq63
      go_wp2_with fail
      refine HE.out.1.mono ?_
      rintro e5 w5 ⟨rfl, hB5, hf5⟩
      have c8 := hB5.wait
      have z8 := hB5.free 8
      have hB6 := hB5.setWait (.slice A4 (q.length - 64) (c3 - 64))
      have hf6 : Fr (fun i => i = hb) w5 (w5.setCell ⟨hb, 8, none⟩ (.slice A4 (q.length - 64) (c3 - 64))) := Fr.set (F := fun i => i = hb) (Fr.refl (fun i => i = hb) w5) ⟨hb, 8, none⟩ (.inl rfl) _
      have hW6 := (HE.out.2.fr hf5 fun k hk => hk.2).fr hf6 fun k hk => hk.2
      have H6 := Lib.hid (And.intro hB6 (And.intro hW6 (And.intro hf5 hf6)))
      clear hB5 hf5 hB6 hf6 hW6
      go_wp2_with fail
      go_roundw
      case rel =>
        have hm := HX.out.2.2.2.2.1
        exact ⟨q.drop 64, eatS H' (q.take 64), _, by rw [← feed_ge h64]; exact HQ.out.1, H6.out.1, H6.out.2.1, (HQ.out.2.2.2.trans (H6.out.2.2.1.mono fun i _ e => .inl (by rw [e]; exact hm))).trans (H6.out.2.2.2.mono fun i _ e => .inl (by rw [e]; exact hm))⟩
      case measure =>
        have e1 := H6.out.1.wait
        have e2 := HQ.out.2.1.wait
        unfold waitLen
        rw [e1, e2]
        dsimp only
        omega
    · have h64i : (q.length : Int) < 64 := by omega
      clear hq hB hW hf hq63
      go_wp2_with fail
      go_end0
      have e := HQ.out.1
      rw [feed_lt h64] at e
      rw [← e, HN.out]
      exact ⟨rfl, ⟨.inl HX.out.2.2.2.2.1, _, HQ.out.2.1, HQ.out.2.2.1⟩, HQ.out.2.2.2⟩
end Go.Proofs.YtfaooohenicfbaaGreatDoor
