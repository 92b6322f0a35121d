/- Texts of this claim, one behind the other: Sha6, Sum, Ref3. -/
import Derived.Test.YtlmhphejgahfbaaGreatDoorMrowledgerfirst5
import Derived.Test.YtlmhphejgahfbaaGreatDoorMrowledgerfirst4
/- SHA-256: one byte more; the end. -/
set_option linter.unusedVariables false
set_option linter.unusedSimpArgs false
namespace Go.Proofs.YtlmhphejgahfbaaGreatDoor
open Go.RowKit

theorem feed_len (H : Nat → W32) (q : Bs) : (feed H q).2.length = q.length % 64 := by
  induction hn : q.length using Nat.strongRecOn generalizing H q with
  | _ n ih =>
    by_cases h : 64 ≤ q.length
    · rw [feed_ge h, ih _ (by simp; omega) _ _ rfl, List.length_drop]; omega
    · rw [feed_lt h]; show q.length = n % 64; omega

/-- A hasher of one's own: all its blocks are new. -/
def Own (B : Nat) (w : World) (hb : Nat) (H : Nat → W32) (ws : Bs) (n : Nat) : Prop := ∃ F, Hasher w F hb H ws n ∧ ∀ i, F i → B ≤ i ∧ i < w.heap.size
theorem Hasher.own {B : Nat} {w : World} {F : Nat → Prop} {hb : Nat} {H : Nat → W32} {ws : Bs} {n : Nat} (h : Hasher w F hb H ws n) (k : ∀ i, F i → B ≤ i) : Own B w hb H ws n := by
  obtain ⟨hm, wv, h1, h2⟩ := h
  exact ⟨fun i => F i ∧ i < w.heap.size, ⟨⟨hm, h1.lt⟩, wv, h1, h2.mono fun i hi hl => ⟨⟨hi.1, hl⟩, hi.2⟩⟩, fun i hi => ⟨k i hi.1, hi.2⟩⟩
theorem Own.fr0 {B : Nat} {w w' : World} {hb : Nat} {H : Nat → W32} {ws : Bs} {n : Nat} (h : Own B w hb H ws n) (f : Fr No w w') : Own B w' hb H ws n := by
  obtain ⟨F, h1, h2⟩ := h
  exact ⟨F, h1.fr0 f, fun i hi => ⟨(h2 i hi).1, Nat.lt_of_lt_of_le (h2 i hi).2 f.size⟩⟩

/-- write, of what lies apart. -/
theorem own_write {B : Nat} {w : World} {G : Nat → Prop} {hb c n : Nat} {A : Option Addr} {p ws : Bs} {H : Nat → W32} (h : Own B w hb H ws n) (hr : Rd Ty.u8 w G A p) (hd : ∀ i, G i → i < B ∨ w.heap.size ≤ i) (hk : KAt w) (hB : 0 < B) (hl : ws.length + p.length ≤ 1000000000000) (hn : n + p.length ≤ 1000000000000) :
    Calls Tryz.prog 89 #[.pointer (some ⟨hb, 0, none⟩), .slice A p.length c] w fun e w' => e = .returned (.tuple #[]) ∧ Own B w' hb (feed H (ws ++ p)).1 (feed H (ws ++ p)).2 (n + p.length) ∧ Fr (fun i => B ≤ i) w w' := by
  obtain ⟨F, h1, h2⟩ := h
  have hsz : B ≤ w.heap.size := by have := (h2 hb h1.mem); omega
  refine (write_ok (c := c) h1 hr (fun i hi hf => ?_) hk (fun hf => by have := (h2 _ hf).1; omega) hl hn).mono ?_
  · rcases hd i hi with h | h
    · have := (h2 i hf).1; omega
    · have := (h2 i hf).2; omega
  · rintro e w' ⟨he, hh, hf⟩
    exact ⟨he, hh.own fun i hi => hi.elim (fun h => (h2 i h).1) (fun h => by omega), hf.mono fun i _ h => (h2 i h).1⟩
/-- One byte. -/
theorem own_write1 {B : Nat} {w : World} {hb n : Nat} {ws : Bs} {H : Nat → W32} {b : UInt8} (h : Own B w hb H ws n) (hk : KAt w) (hB : 0 < B) (hl : ws.length ≤ 100000000000) (hn : n ≤ 100000000000) :
    Calls Tryz.prog 89 #[.pointer (some ⟨hb, 0, none⟩), .slice (some ⟨w.heap.size, 0, none⟩) 1 1] (w.alloc (.cells #[.int .u8 (b.toNat : Int)] 5)) fun e w' => e = .returned (.tuple #[]) ∧ Own B w' hb (feed H (ws ++ [b])).1 (feed H (ws ++ [b])).2 (n + 1) ∧ Fr (fun i => B ≤ i) w w' := by
  have hfa : Fr No w (w.alloc (.cells #[.int .u8 (b.toNat : Int)] 5)) := (Fr.refl No w).alloc _
  have hsz : B ≤ w.heap.size := by obtain ⟨F, h1, h2⟩ := h; have := (h2 hb h1.mem); omega
  have hr : Rd Ty.u8 (w.alloc (.cells #[.int .u8 (b.toNat : Int)] 5)) (fun i => i = w.heap.size) (some ⟨w.heap.size, 0, none⟩) [b] := by
    refine ⟨by simp, [.int .u8 (b.toNat : Int)], cells8_row [b], fun j u hu => ⟨_, rfl, rfl, ?_⟩⟩
    rw [add0, blk_cell (heap_alloc_new w _)]
    simpa using hu
  obtain ⟨F, h1, h2⟩ := h
  refine (write_ok (c := 1) (h1.fr0 hfa) hr (fun i hi hf => ?_) (hk.fr0 hfa) (fun hf => by have := (h2 _ hf).1; omega) (by simp; omega) (by simp; omega)).mono ?_
  · have := (h2 i hf).2; omega
  · rintro e w' ⟨he, hh, hf⟩
    exact ⟨he, hh.own fun i hi => hi.elim (fun h => (h2 i h).1) (fun h => by simp at h; omega), (hfa.mono fun _ _ f => f.elim).trans (hf.mono fun i _ h => .inl (h2 i h).1)⟩

/-- What is behind the bytes: so that they are whole blocks. -/
def zeros (n : Nat) : Nat := (119 - n % 64) % 64
def be8 (n : Nat) : Bs := (List.range 8).map fun j => UInt8.ofNat (n / 2 ^ (56 - 8 * j))
def pad (p : Bs) : Bs := p ++ [128] ++ List.replicate (zeros p.length) 0 ++ be8 (8 * p.length)
def H0 : Nat → W32 := fun j => BitVec.ofNat 32 ([0x6a09e667, 0xbb67ae85, 0x3c6ef372, 0xa54ff53a, 0x510e527f, 0x9b05688c, 0x1f83d9ab, 0x5be0cd19].getD j 0)
def be4 (x : W32) : Bs := (List.range 4).map fun j => UInt8.ofNat (x.toNat / 2 ^ (24 - 8 * j))
def outB (H : Nat → W32) : Nat → Bs
  | 0 => []
  | k + 1 => outB H k ++ be4 (H k)
/-- SHA-256, as bytes, and as a text. -/
def shaB (p : Bs) : Bs := outB (feed H0 (pad p)).1 8
def sha (p : Bs) : ByteArray := ⟨(shaB p).toArray⟩

theorem zeros_lt (n : Nat) : zeros n < 64 := by unfold zeros; omega
theorem zeros_end (n j : Nat) (hj : j ≤ zeros n) : (n + 1 + j) % 64 = 56 ↔ j = zeros n := by unfold zeros at *; omega
theorem pad_len (p : Bs) : (pad p).length % 64 = 0 := by
  have : (be8 (8 * p.length)).length = 8 := by unfold be8; simp
  unfold pad
  simp only [List.length_append, List.length_replicate, this, List.length_singleton]
  unfold zeros
  omega
theorem mod8 (x : Nat) : ((UInt8.ofNat x).toNat : Int) = (x : Int) % 256 := by
  rw [UInt8.toNat_ofNat']; omega
theorem run_index_8 (S : Nat → W32) {i : Nat} (h : i < 8) (w : World) : (Instr.index 233 (.agg #[.int .u32 (U (S 0)), .int .u32 (U (S 1)), .int .u32 (U (S 2)), .int .u32 (U (S 3)), .int .u32 (U (S 4)), .int .u32 (U (S 5)), .int .u32 (U (S 6)), .int .u32 (U (S 7))]) (.int .i64 (i : Int))).run Tryz.prog w = .ok (.int .u32 (U (S i))) w := by
  have h0 : (0 : Int) ≤ (i : Int) ∧ (i : Int) < ((8 : Nat) : Int) := ⟨Int.natCast_nonneg _, by omega⟩
  simp only [Instr.index, asIntOf, Sem.run_bind, Sem.run_pure, Result.andThen_ok, run_underlying Tryz.underlying233, Tryz.sizeOf161]
  rw [if_pos h0]
  match i, h with
  | 0, _ | 1, _ | 2, _ | 3, _ | 4, _ | 5, _ | 6, _ | 7, _ => simp [part, Tryz.isAgg161, Tryz.sizeOf161]
  | n + 8, h => exact absurd h (by omega)
theorem builder_new (w : World) : Lib.IsBuilder 239 5 w.heap.size w.heap.size [] (w.alloc (.cells #[.pointer none, .slice none 0 0] 239)) :=
  .inl ⟨Nat.le_refl _, .slice none 0 0, heap_alloc_new w _, World.ownsRow_nil _ _ _ _, by simp [Value.ownBlock]⟩
theorem outB_len (H : Nat → W32) (k : Nat) : (outB H k).length = 4 * k := by
  induction k with
  | zero => rfl
  | succ k ih => show (outB H k ++ be4 (H k)).length = _; rw [List.length_append, ih]; unfold be4; simp; omega

set_option maxHeartbeats 4000000 in
set_option maxRecDepth 100000 in
theorem end_ok {B : Nat} {w : World} {hb : Nat} {p : Bs} (h : Own B w hb (feed H0 p).1 (feed H0 p).2 p.length) (hk : KAt w) (hB : 0 < B) (hp : p.length ≤ 10000000000) :
    Calls Tryz.prog 90 #[.pointer (some ⟨hb, 0, none⟩)] w fun e w' => e = .returned (.string (sha p)) ∧ Fr (fun i => B ≤ i) w w' := by
  have hsz : B ≤ w.heap.size := by obtain ⟨F, h1, h2⟩ := h; have := (h2 hb h1.mem); omega
  have c9 : w.cell? ⟨hb, 9, none⟩ = some (.int .u64 (p.length : Int)) := by obtain ⟨F, ⟨_, wv, h1, _⟩, _⟩ := h; exact h1.num
  have s1 : IntKind.u64.wrap ((p.length : Int) * 8) = ((8 * p.length : Nat) : Int) := by show ((p.length : Int) * 8) % 18446744073709551616 = _; omega
  obtain ⟨n8, hn8⟩ : ∃ n8, 8 * p.length = n8 := ⟨_, rfl⟩
  rw [hn8] at s1
  have hw1 := own_write1 (b := 128) h hk hB (by have := feed_short H0 p; omega) (by omega)
  rw [feed_append] at hw1
  have H := Lib.hid (And.intro hw1 (And.intro hk (And.intro hB (And.intro hsz hn8))))
  clear hw1 hk hB h hn8
  go_enter Tryz.func90, Tryz.ntmps90
  go_wp2_with fail
  refine H.out.1.mono ?_
  rintro e1 w1 ⟨rfl, hO1, hf1⟩
  have H1 := Lib.hid (And.intro hO1 hf1)
  clear hO1 hf1
  go_wp2_with fail
  go_loopw [17] (fun _ wr => Hid (∃ j, j ≤ zeros p.length ∧ Own B wr hb (feed H0 (p ++ [128] ++ List.replicate j 0)).1 (feed H0 (p ++ [128] ++ List.replicate j 0)).2 (p.length + 1 + j) ∧ Fr (fun i => B ≤ i) w wr)) (fun _ wr => (120 - waitLen wr hb) % 64)
  case atStart => exact ⟨0, Nat.zero_le _, by simpa using H1.out.1, H1.out.2⟩
  case round =>
    obtain ⟨j, hj, hO, hf⟩ := hrel.out
    have hkr : KAt wr := H.out.2.1.fr hf (fun h => by have := H.out.2.2.1; omega)
    have hwt : ∃ A c, wr.cell? ⟨hb, 8, none⟩ = some (.slice A ((p.length + 1 + j) % 64) c) := by
      obtain ⟨F, ⟨_, wv, h1, h2⟩, _⟩ := hO
      obtain ⟨A, c, rfl, _, _⟩ := h2.form
      have := h1.wait
      rw [feed_len] at this
      simp only [List.length_append, List.length_replicate, List.length_singleton] at this
      exact ⟨A, c, this⟩
    obtain ⟨A, c, c8⟩ := hwt
    obtain ⟨L, hL⟩ : ∃ L, (p.length + 1 + j) % 64 = L := ⟨_, rfl⟩
    rw [hL] at c8
    have hL64 : L < 64 := by omega
    have hLi : (L : Int) < 64 := by omega
    have hL0 : (0 : Int) ≤ (L : Int) := Int.natCast_nonneg _
    by_cases h56 : L = 56
    · subst h56
      obtain rfl : j = zeros p.length := (zeros_end p.length j hj).1 hL
      obtain ⟨q, hq⟩ : ∃ q, p ++ [128] ++ List.replicate (zeros p.length) 0 = q := ⟨_, rfl⟩
      have hql : q.length = p.length + 1 + zeros p.length := by rw [← hq]; simp; omega
      have hpad : pad p = q ++ be8 n8 := by unfold pad; rw [hq, H.out.2.2.2.2]
      rw [hq, ← hql] at hO
      have hq7 : q.length ≤ 20000000000 := by have := zeros_lt p.length; omega
      have H3 := Lib.hid (And.intro hO (And.intro hf hpad))
      clear hO hf hkr hL hq hql hpad hj hLi hL0 hL64
      go_wp2_with fail
      clear c8
      obtain ⟨w3, hw3⟩ : ∃ w3 : World, w3 = wr := ⟨_, rfl⟩
      subst hw3
      go_loopw [4] (fun s wr => ∃ (j : Nat) (d : Int), j ≤ 8 ∧ d = 56 - 8 * (j : Int) ∧ s = .int .i64 d ∧ Hid (Own B wr hb (feed H0 (q ++ (be8 n8).take j)).1 (feed H0 (q ++ (be8 n8).take j)).2 (q.length + j) ∧ Fr (fun i => B ≤ i) w wr)) (fun s _ => (intOf s + 8).toNat)
      case atStart => exact ⟨0, 56, by omega, by simp, rfl, by simpa using H3.out.1, H3.out.2.1⟩
      case round =>
        obtain ⟨j, d, hj, hd, rfl, J⟩ := hrel
        by_cases hlt : j < 8
        · have hd0 : 0 ≤ d := by omega
          have hd1 : d ≤ 56 := by omega
          have hbl : (be8 n8).length = 8 := by unfold be8; simp
          have hb : (be8 n8)[j]'(by omega) = UInt8.ofNat (n8 / 2 ^ (56 - 8 * j)) := by unfold be8; simp
          obtain ⟨x, hx⟩ : ∃ x, n8 / 2 ^ (56 - 8 * j) = x := ⟨_, rfl⟩
          have qw : ((UInt8.ofNat x).toNat : Int) = (n8 : Int) / 2 ^ d.toNat % 256 := by
            have e : d.toNat = 56 - 8 * j := by omega
            rw [mod8, ← hx, e, Int.natCast_ediv, Int.natCast_pow]
            rfl
          have hkr : KAt wr := H.out.2.1.fr J.out.2 (fun h => by have := H.out.2.2.1; omega)
          have hw := own_write1 (b := UInt8.ofNat x) J.out.1 hkr H.out.2.2.1 (by have := feed_short H0 (q ++ (be8 n8).take j); omega) (by omega)
          rw [hx] at hb
          rw [feed_append, List.append_assoc, ← hb, ← List.take_succ_eq_append_getElem (by omega), hb] at hw
          obtain ⟨b, hbb⟩ : ∃ b, UInt8.ofNat x = b := ⟨_, rfl⟩
          rw [hbb] at hw qw
          rw [qw] at hw
          have HW := Lib.hid (And.intro hw (And.intro J.out.2 hd))
          clear hw hb hx hbb hkr hd qw
          go_wp2_with fail
          refine HW.out.1.mono ?_
          rintro e2 w2 ⟨rfl, hO2, hf2⟩
          have H2 := Lib.hid (And.intro hO2 (HW.out.2.1.trans (hf2.mono fun i _ h => .inl h)))
          clear hO2 hf2
          go_wp2_with fail
          go_roundw
          case rel => exact ⟨j + 1, d - 8, by omega, by have := HW.out.2.2; omega, rfl, by rw [← Nat.add_assoc]; exact H2.out.1, H2.out.2⟩
          case measure => simp [intOf]; omega
        · obtain rfl : j = 8 := by omega
          have hd0 : d < 0 := by omega
          have hbl : (be8 n8).take 8 = be8 n8 := List.take_of_length_le (by unfold be8; simp)
          have hO := J.out.1
          rw [hbl, ← H3.out.2.2] at hO
          obtain ⟨HF, hHF⟩ : ∃ HF, (feed H0 (pad p)).1 = HF := ⟨_, rfl⟩
          rw [hHF] at hO
          have hcell : ∀ (w' : World) (i : Nat), i < 8 → Fr No wr w' → w'.cell? ⟨hb, i, none⟩ = some (.int .u32 (U (HF i))) := fun w' i hi f => by
            obtain ⟨F, ⟨_, wv, h1, _⟩, _⟩ := hO
            exact (h1.fr0 f).cell hi
          obtain ⟨W, hW⟩ : ∃ W, W = wr.alloc (.cells #[.pointer none, .slice none 0 0] 239) := ⟨_, rfl⟩
          have hfW : Fr No wr W := by rw [hW]; exact (Fr.refl No wr).alloc _
          have g0 := hcell W 0 (by decide) hfW
          have g1 := hcell W 1 (by decide) hfW
          have g2 := hcell W 2 (by decide) hfW
          have g3 := hcell W 3 (by decide) hfW
          have g4 := hcell W 4 (by decide) hfW
          have g5 := hcell W 5 (by decide) hfW
          have g6 := hcell W 6 (by decide) hfW
          have g7 := hcell W 7 (by decide) hfW
          rw [hW] at g0 g1 g2 g3 g4 g5 g6 g7
          have hbn := builder_new wr
          rw [← hW] at hbn
          have hix := fun i hi w => run_index_8 HF (i := i) hi w
          obtain ⟨kv, hkv⟩ : ∃ kv, Value.agg #[.int .u32 (U (HF 0)), .int .u32 (U (HF 1)), .int .u32 (U (HF 2)), .int .u32 (U (HF 3)), .int .u32 (U (HF 4)), .int .u32 (U (HF 5)), .int .u32 (U (HF 6)), .int .u32 (U (HF 7))] = kv := ⟨_, rfl⟩
          simp only [hkv] at hix
          have HX := Lib.hid (And.intro hbn (And.intro hix (And.intro J.out.2 (And.intro hHF (And.intro hfW.to_below hkv)))))
          clear hd hbl hO hHF hcell hfW hbn hix hkv
          go_wp2_with fail
          rw [HX.out.2.2.2.2.2]
          have hI0 : Lib.IsBuilder 239 5 wr.heap.size wr.heap.size (Lib.byteCells (outB HF 0)) (wr.alloc (.cells #[.pointer none, .slice none 0 0] 239)) ∧ Below wr.heap.size wr (wr.alloc (.cells #[.pointer none, .slice none 0 0] 239)) := by
            rw [← hW]; exact ⟨HX.out.1, HX.out.2.2.2.2.1⟩
          have HI0 := Lib.hid hI0
          clear hI0 g0 g1 g2 g3 g4 g5 g6 g7
          obtain ⟨w4, hw4⟩ : ∃ w4 : World, w4 = wr := ⟨_, rfl⟩
          subst hw4
          go_loopw [41] (fun s wr => ∃ k : Nat, k ≤ 8 ∧ s = .int .i64 (k : Int) ∧ Hid (Lib.IsBuilder 239 5 w4.heap.size w4.heap.size (Lib.byteCells (outB HF k)) wr ∧ Below w4.heap.size w4 wr)) (fun s _ => (8 - intOf s).toNat)
          case atStart => exact ⟨0, by omega, rfl, HI0.out.1, HI0.out.2⟩
          case round =>
            obtain ⟨k, hk8, rfl, J4⟩ := hrel
            have hk0 : (0 : Int) ≤ (k : Int) := Int.natCast_nonneg _
            by_cases hlt4 : k < 8
            · have hk1 : (k : Int) < 8 := by omega
              have hki := fun w => HX.out.2.1 k hlt4 w
              go_wp2_with fail
              obtain ⟨w5, hw5⟩ : ∃ w5 : World, w5 = wr := ⟨_, rfl⟩
              subst hw5
              go_loopw [8] (fun s wr => ∃ (j : Nat) (d : Int), j ≤ 4 ∧ d = 24 - 8 * (j : Int) ∧ s = .int .i64 d ∧ Hid (Lib.IsBuilder 239 5 w4.heap.size w4.heap.size (Lib.byteCells (outB HF k ++ (be4 (HF k)).take j)) wr ∧ Below w4.heap.size w4 wr)) (fun s _ => (intOf s + 8).toNat)
              case atStart => exact ⟨0, 24, by omega, by simp, rfl, by simpa using J4.out.1, J4.out.2⟩
              case round =>
                obtain ⟨j, d, hj, hd, rfl, J5⟩ := hrel
                have hbl : (be4 (HF k)).length = 4 := by unfold be4; simp
                by_cases hlt : j < 4
                · have hd0 : 0 ≤ d := by omega
                  have hd1 : d ≤ 24 := by omega
                  have hb4 : (be4 (HF k))[j]'(by omega) = UInt8.ofNat ((HF k).toNat / 2 ^ (24 - 8 * j)) := by unfold be4; simp
                  obtain ⟨x, hx⟩ : ∃ x, (HF k).toNat / 2 ^ (24 - 8 * j) = x := ⟨_, rfl⟩
                  have qw : ((UInt8.ofNat x).toNat : Int) = U (HF k) / 2 ^ d.toNat % 256 := by
                    have e : d.toNat = 24 - 8 * j := by omega
                    rw [mod8, ← hx, e, Int.natCast_ediv, Int.natCast_pow]
                    rfl
                  have hl := outB_len HF k
                  have hw := write_byte w4.heap.size w4.heap.size _ ((UInt8.ofNat x).toNat : Int) wr J5.out.1 (by unfold Lib.byteCells; simp [hl, hbl]; omega) J5.out.2.size
                  have ebytes : Lib.byteCells (outB HF k ++ (be4 (HF k)).take j) ++ [.int .u8 ((UInt8.ofNat x).toNat : Int)] = Lib.byteCells (outB HF k ++ (be4 (HF k)).take (j + 1)) := by
                    rw [List.take_succ_eq_append_getElem (by omega), hb4, hx]
                    unfold Lib.byteCells
                    simp
                  rw [ebytes] at hw
                  obtain ⟨b, hbb⟩ : ∃ b, UInt8.ofNat x = b := ⟨_, rfl⟩
                  rw [hbb] at hw qw
                  rw [qw] at hw
                  have HW := Lib.hid (And.intro hw (And.intro J5.out.2 hd))
                  clear hw hb4 hx hbb hd ebytes hl hbl qw
                  go_wp2_with fail
                  refine HW.out.1.mono ?_
                  rintro e2 w2 ⟨rfl, hO2, hf2⟩
                  have H2 := Lib.hid (And.intro hO2 (HW.out.2.1.trans hf2))
                  clear hO2 hf2
                  go_wp2_with fail
                  go_roundw
                  case rel => exact ⟨j + 1, d - 8, by omega, by have := HW.out.2.2; omega, rfl, .inr H2.out.1, H2.out.2⟩
                  case measure => simp [intOf]; omega
                · obtain rfl : j = 4 := by omega
                  have hd0 : d < 0 := by omega
                  have ht4 : (be4 (HF k)).take 4 = be4 (HF k) := List.take_of_length_le (by omega)
                  have J6 := J5
                  rw [ht4] at J6
                  clear hd J5 ht4
                  go_wp2_with fail
                  go_roundw
                  case rel => exact ⟨k + 1, by omega, by go_num, J6.out.1, J6.out.2⟩
                  case measure => simp [intOf]; omega
            · obtain rfl : k = 8 := by omega
              have hstr := Go.Proofs.Tryz.Builder_String w4.heap.size w4.heap.size _ wr J4.out.1 (by intro e; have := outB_len HF 8; rw [e] at this; simp at this)
              have HS := Lib.hid hstr
              clear hstr
              go_wp2_with fail
              refine HS.out.mono ?_
              rintro e2 w2 ⟨rfl, hb2⟩
              go_wp2_with fail
              go_ret
              have hb3 := J4.out.2.trans hb2
              exact ⟨by rw [← HX.out.2.2.2.1]; rfl, HX.out.2.2.1.trans ((Fr.below hb3).mono fun _ _ f => f.elim)⟩
    · have hne : ((L : Int) == 56) = false := beq_eq_false_iff_ne.2 (by omega)
      have hne2 : ((L : Int) != 56) = true := by rw [bne, hne]; rfl
      have hjz : j < zeros p.length := by
        have := (zeros_end p.length j hj)
        rw [hL] at this
        omega
      have hw := own_write1 (b := 0) hO hkr H.out.2.2.1 (by have := feed_short H0 (p ++ [128] ++ List.replicate j 0); omega) (by have := zeros_lt p.length; omega)
      rw [feed_append, List.append_assoc (p ++ [128]), ← List.replicate_succ'] at hw
      have hwl : waitLen wr hb = L := by unfold waitLen; rw [c8]
      have HW := Lib.hid (And.intro hw (And.intro hf (And.intro hL hwl)))
      clear hw hf hO hkr hL hwl
      go_wp2_with fail
      refine HW.out.1.mono ?_
      rintro e2 w2 ⟨rfl, hO2, hf2⟩
      have H2 := Lib.hid (And.intro hO2 (HW.out.2.1.trans (hf2.mono fun i _ h => .inl h)))
      clear hO2 hf2
      go_wp2_with fail
      go_roundw
      case rel => exact ⟨j + 1, hjz, H2.out.1, H2.out.2⟩
      case measure =>
        have hl2 : waitLen w2 hb = (L + 1) % 64 := by
          obtain ⟨F, ⟨_, wv, h1, h2⟩, _⟩ := H2.out.1
          obtain ⟨A', c', rfl, _, _⟩ := h2.form
          have := h1.wait
          unfold waitLen
          rw [this]
          show (feed H0 (p ++ [128] ++ List.replicate (j + 1) 0)).2.length = _
          rw [feed_len]
          simp only [List.length_append, List.length_replicate, List.length_singleton]
          have := HW.out.2.2.1
          omega
        rw [hl2, HW.out.2.2.2]
        omega
end Go.Proofs.YtlmhphejgahfbaaGreatDoor
/- SHA-256: Sum. -/
set_option linter.unusedVariables false
set_option linter.unusedSimpArgs false
namespace Go.Proofs.YtlmhphejgahfbaaGreatDoor
open Go.RowKit

/-- The block of a hasher in which nothing has come. -/
def freshObj : Obj := .cells #[.int .u32 1779033703, .int .u32 3144134277, .int .u32 1013904242, .int .u32 2773480762, .int .u32 1359893119, .int .u32 2600822924, .int .u32 528734635, .int .u32 1541459225, .slice none 0 0, .int .u64 0] 235

set_option maxHeartbeats 1000000 in
set_option maxRecDepth 100000 in
theorem fresh_ok (w : World) : Calls Tryz.prog 88 #[] w fun e w' => e = .returned (.pointer (some ⟨w.heap.size, 0, none⟩)) ∧ w' = w.alloc freshObj := by
  go_enter Tryz.func88, Tryz.ntmps88
  go_wp2_with fail
  go_ret
  first | exact ⟨rfl, rfl⟩ | rfl

theorem fresh_own (w : World) : Own w.heap.size (w.alloc freshObj) w.heap.size H0 [] 0 := by
  refine ⟨fun i => i = w.heap.size, ⟨rfl, .slice none 0 0, ⟨_, heap_alloc_new w _, rfl, fun j hj => ?_, rfl, rfl⟩, .inl ⟨rfl, rfl⟩⟩, fun i hi => by subst hi; simp⟩
  match j, hj with
  | 0, _ | 1, _ | 2, _ | 3, _ | 4, _ | 5, _ | 6, _ | 7, _ => rfl
  | n + 8, h => exact absurd h (by omega)

theorem Rd.here {α : Type} {t : Ty α} {w : World} {F : Nat → Prop} {A : Option Addr} {xs : List α} (h : Rd t w F A xs) : Rd t w (fun i => F i ∧ i < w.heap.size) A xs := h.mono fun _ a b => ⟨a, b⟩
theorem KAt.lt {w : World} (h : KAt w) : 0 < w.heap.size := World.block_lt_of_cell? w _ (h 0 (by decide))

set_option maxHeartbeats 1000000 in
set_option maxRecDepth 100000 in
theorem sum_ok {w : World} {G : Nat → Prop} {A : Option Addr} {c : Nat} {p : Bs} (hr : Rd Ty.u8 w G A p) (hk : KAt w) (hp : p.length ≤ 10000000000) :
    Calls Tryz.prog 39 #[.slice A p.length c] w fun e w' => e = .returned (.string (sha p)) ∧ Fr No w w' := by
  obtain ⟨W, hW⟩ : ∃ W, W = w.alloc freshObj := ⟨_, rfl⟩
  have hfa : Fr No w W := by rw [hW]; exact (Fr.refl No w).alloc _
  have hf := fresh_ok w
  have hO := fresh_own w
  rw [← hW] at hf hO
  have hw := own_write (c := c) hO (hr.here.fr0 hfa) (fun i hi => .inl hi.2) (hk.fr0 hfa) hk.lt (by simp; omega) (by omega)
  rw [List.nil_append, Nat.zero_add] at hw
  have HH := Lib.hid (And.intro hf (And.intro hw (And.intro hfa (And.intro hk hk.lt))))
  clear hf hO hw hfa hr hk hW
  go_enter Tryz.func39, Tryz.ntmps39
  go_wp2_with fail
  refine HH.out.1.mono ?_
  rintro e1 w1 ⟨rfl, rfl⟩
  go_wp2_with fail
  refine HH.out.2.1.mono ?_
  rintro e2 w2 ⟨rfl, hO2, hf2⟩
  have hk2 : KAt w2 := (HH.out.2.2.2.1.fr0 HH.out.2.2.1).fr hf2 (fun h => by have := HH.out.2.2.2.2; omega)
  have hend := end_ok hO2 hk2 HH.out.2.2.2.2 hp
  have HE := Lib.hid (And.intro hend hf2)
  clear hend hO2 hf2 hk2
  go_wp2_with fail
  refine HE.out.1.mono ?_
  rintro e3 w3 ⟨rfl, hf3⟩
  go_wp2_with fail
  go_ret
  exact ⟨rfl, HH.out.2.2.1.trans ((HE.out.2.trans (hf3.mono fun i _ h => .inl h)).mono fun i _ h => .inr h)⟩
end Go.Proofs.YtlmhphejgahfbaaGreatDoor
/- Reference 1 and 3: Num, Read, turn. -/
set_option linter.unusedVariables false
set_option linter.unusedSimpArgs false
namespace Go.Proofs.YtlmhphejgahfbaaGreatDoor
open Go.RowKit

theorem turn_gen (x y : W32) (s u : Int) (n m : Nat) (h2 : IntKind.i64.wrap (32 - s) = u) (hs : Op.shift .shr .u32 (U x) .i64 s = pure (.int .u32 (U (x >>> n)))) (ht : Op.shift .shl .u32 (U x) .i64 u = pure (.int .u32 (U (x <<< m))))
    (h3 : bits .or .u32 (U (x >>> n)) (U (x <<< m)) = U y) (w : World) : Calls Tryz.prog 96 #[.int .u32 (U x), .int .i64 s] w fun e w' => e = .returned (.int .u32 (U y)) ∧ ∃ m, w' = w.drewN m := by
  go_enter Tryz.func96, Tryz.ntmps96
  go_wp2_with fail
  go_quiet (fail)
  go_wp2_with fail
  go_ret
  exact ⟨rfl, nq, rfl⟩
theorem shift_shl' (x : W32) (s : Int) (n : Nat) (h : s = n) (hn : n ≤ 32) : Op.shift .shl .u32 (U x) .i64 s = pure (.int .u32 (U (x <<< n))) := by
  subst h
  have : min ((n : Int).toNat) IntKind.u32.bits = n := by rw [Int.toNat_natCast]; exact Nat.min_eq_left hn
  simp only [Op.shift, this, U_shl]
  rw [if_neg (by omega)]
theorem shift_shr' (x : W32) (s : Int) (n : Nat) (h : s = n) (hn : n ≤ 32) : Op.shift .shr .u32 (U x) .i64 s = pure (.int .u32 (U (x >>> n))) := by
  subst h
  have : min ((n : Int).toNat) IntKind.u32.bits = n := by rw [Int.toNat_natCast]; exact Nat.min_eq_left hn
  simp only [Op.shift, this, U_shr]
  rw [if_neg (by omega)]
theorem turn_ok (x y : W32) (s : Int) (n : Nat) (h : s = n) (hn : n ≤ 32) (hy : rr x n = y) (w : World) : Calls Tryz.prog 96 #[.int .u32 (U x), .int .i64 s] w fun e w' => e = .returned (.int .u32 (U y)) ∧ ∃ m, w' = w.drewN m := by
  subst hy
  exact turn_gen x _ s (32 - s) n (32 - n) (IntWalk.i64_in _ (by omega)) (shift_shr' x s n h hn) (shift_shl' x _ _ (by omega) (by omega)) (U_or _ _) w

/-- A number's bytes, the greatest first. -/
def beN (n k : Nat) : Bs := (List.range k).map fun j => UInt8.ofNat (n / 2 ^ (8 * (k - 1 - j)))
theorem beN_len (n k : Nat) : (beN n k).length = k := by unfold beN; simp
theorem beN_get (n k j : Nat) (h : j < k) : (beN n k)[j]'(by rw [beN_len]; exact h) = UInt8.ofNat (n / 2 ^ (8 * (k - 1 - j))) := by simp [beN]
theorem row_u8b (w : World) (F : Nat → Prop) (b : UInt8) : Row Ty.u8 w F [b] [.int .u8 (b.toNat : Int)] := ⟨[.int .u8 (b.toNat : Int)], [], rfl, rfl, rfl⟩

set_option maxHeartbeats 1000000 in
set_option maxRecDepth 100000 in
theorem num_ok {w : World} {n k : Nat} (hn : n < 18446744073709551616) (hk : k ≤ 8) :
    Calls Tryz.prog 94 #[.int .u64 (n : Int), .int .i64 (k : Int)] w fun e w' => ∃ A c, e = .returned (.slice A k c) ∧ Ow Ty.u8 5 w' (fun i => w.heap.size ≤ i) (.slice A k c) (beN n k) ∧ Fr No w w' := by
  have hn0 : (0 : Int) ≤ (n : Int) := Int.natCast_nonneg _
  have hk0 : (0 : Int) ≤ (k : Int) := Int.natCast_nonneg _
  have hk1 : (k : Int) ≤ 8 := by omega
  clear hn
  go_enter Tryz.func94, Tryz.ntmps94
  go_wp2_with fail
  go_loopw [5, 6] (fun v s wr => ∃ i : Nat, i ≤ k ∧ s = .int .i64 (i : Int) ∧ ∃ A c, v = .slice A i c ∧ Hid (Ow Ty.u8 5 wr (fun i => w.heap.size ≤ i) (.slice A i c) ((beN n k).take i) ∧ Fr No w wr)) (fun _ s _ => k - (intOf s).toNat)
  case atStart => exact ⟨0, by omega, rfl, none, 0, rfl, Ow.nil, Fr.refl _ _⟩
  case round =>
    obtain ⟨i, hi, rfl, A, c, rfl, I⟩ := hrel
    have hi0 : (0 : Int) ≤ (i : Int) := Int.natCast_nonneg _
    by_cases hlt : i < k
    · have hi1 : (i : Int) < (k : Int) := by omega
      have hil : i < (beN n k).length := by rw [beN_len]; exact hlt
      have hb := beN_get n k i hlt
      obtain ⟨b, hbb⟩ : ∃ b, UInt8.ofNat (n / 2 ^ (8 * (k - 1 - i))) = b := ⟨_, rfl⟩
      have qb : (b.toNat : Int) = (n : Int) / 2 ^ (8 * (k - 1 - i)) % 256 := by
        rw [← hbb, UInt8.toNat_ofNat', Int.natCast_emod, Int.natCast_ediv, Int.natCast_pow]; rfl
      have hnext : (beN n k).take i ++ [b] = (beN n k).take (i + 1) := by rw [List.take_succ_eq_append_getElem hil, hb, hbb]
      have hlen : ((beN n k).take i).length = i := by rw [List.length_take, beN_len]; omega
      obtain ⟨W1, hW1⟩ : ∃ W1, W1 = wr.alloc (.cells #[.int .u8 ((n : Int) / 2 ^ (8 * (k - 1 - i)) % 256)] 5) := ⟨_, rfl⟩
      have hf1 : Fr No wr W1 := by rw [hW1]; exact (Fr.refl No wr).alloc _
      have hA : At W1 (some ⟨wr.heap.size, 0, none⟩) [.int .u8 (b.toNat : Int)] := by
        rw [hW1, qb]; exact At.block (heap_alloc_new wr _)
      have hO := I.out.1.fr0 hf1
      obtain ⟨A1, c1, w1, hrun, hO1, hg1, _⟩ := run_ow_append (P := Tryz.prog) (ty := 46) (ty' := 46) Ty.u8 hO (.int .u8 0) 1 Tryz.underlying46 info_u8 rfl (by decide) (by decide) 1 (ys := [b]) (row_u8b _ _ b) hA (by simp; omega)
      rw [hlen] at hrun hO1
      rw [hnext] at hO1
      have hf2 : Fr No w w1 := (I.out.2.trans (hf1.mono fun _ _ f => f.elim)).grown hg1 fun k hk => .inr (I.out.1.own hk).1
      have hsz : w.heap.size ≤ W1.heap.size := Nat.le_trans I.out.2.size hf1.size
      have HH := Lib.hid (And.intro hO1 (And.intro hf2 hsz))
      clear hsz
      clear hO1 hf2 hg1 hO hA hf1 hlen hnext qb hbb hb hil
      simp only [List.length_singleton] at hrun HH
      go_wp2_with (at_builtin; rw [← hW1]; refine wpList_plain rfl fun K hK => wp_append_run _ _ _ _ rfl rfl rfl hrun (hK _ _ ?_))
      go_roundw
      case rel => exact ⟨i + 1, by omega, by go_num, A1, c1, rfl, HH.out.1.mono fun k hk _ => by (have := HH.out.2.2; rcases hk with hk | hk <;> omega), HH.out.2.1⟩
      case measure => simp [intOf]; omega
    · obtain rfl : i = k := by omega
      have ht : (beN n i).take i = beN n i := List.take_of_length_le (by rw [beN_len]; omega)
      rw [ht] at I
      clear ht
      go_wp2_with fail
      go_ret
      exact ⟨A, c, rfl, I.out.1, I.out.2⟩

/-- The number that bytes are. -/
def rdN (l : Bs) : Nat := l.foldl (fun x b => 256 * x + b.toNat) 0
theorem rdN_snoc (l : Bs) (b : UInt8) : rdN (l ++ [b]) = 256 * rdN l + b.toNat := by unfold rdN; rw [List.foldl_append]; rfl
theorem rdN_lt' (l : Bs) : ∀ a, l.foldl (fun x (b : UInt8) => 256 * x + b.toNat) a < (a + 1) * 256 ^ l.length := by
  induction l with
  | nil => intro a; simp
  | cons b l ih =>
    intro a
    have h1 := b.toNat_lt
    have h2 := ih (256 * a + b.toNat)
    have h3 : (256 * a + b.toNat + 1) * 256 ^ l.length ≤ ((a + 1) * 256) * 256 ^ l.length := Nat.mul_le_mul_right _ (by omega)
    have h4 : ((a + 1) * 256) * 256 ^ l.length = (a + 1) * 256 ^ (l.length + 1) := by rw [Nat.mul_assoc, Nat.pow_succ, Nat.mul_comm 256 (256 ^ l.length)]
    rw [h4] at h3
    exact Nat.lt_of_lt_of_le h2 h3
theorem rdN_lt (l : Bs) : rdN l < 256 ^ l.length := by have := rdN_lt' l 0; rwa [Nat.zero_add, Nat.one_mul] at this

set_option maxHeartbeats 1000000 in
set_option maxRecDepth 100000 in
theorem read_ok {w : World} {F : Nat → Prop} {A : Option Addr} {c : Nat} {xs : Bs} (h : Rd Ty.u8 w F A xs) (hl : xs.length ≤ 4) :
    Calls Tryz.prog 95 #[.slice A xs.length c] w fun e w' => e = .returned (.int .u64 (rdN xs : Int)) ∧ ∃ m, w' = w.drewN m := by
  have hl4 : (xs.length : Int) ≤ 4 := by omega
  have H := Lib.hid (And.intro h hl)
  clear h hl
  go_enter Tryz.func95, Tryz.ntmps95
  go_wp2_with fail
  go_loopw [3, 4] (fun v s wr => ∃ i : Nat, i ≤ xs.length ∧ s = .int .i64 (i : Int) ∧ ∃ x : Int, v = .int .u64 x ∧ Hid (x = (rdN (xs.take i) : Int) ∧ ∃ m, wr = w.drewN m)) (fun _ s _ => xs.length - (intOf s).toNat)
  case atStart => exact ⟨0, by omega, rfl, 0, rfl, rfl, 0, (World.drewN_zero w).symm⟩
  case round =>
    obtain ⟨i, hi, rfl, x, rfl, I⟩ := hrel
    have hf : Fr No w wr := by obtain ⟨_, m, e⟩ := I.out; rw [e]; exact (Fr.refl No w).drewN m
    have hi0 : (0 : Int) ≤ (i : Int) := Int.natCast_nonneg _
    by_cases hlt : i < xs.length
    · have hi1 : (i : Int) < (xs.length : Int) := by omega
      obtain ⟨ad, rfl, x0⟩ := u8_at (H.out.1.fr0 hf) hlt
      have hnext : (rdN (xs.take (i + 1)) : Int) = 256 * x + (xs[i].toNat : Int) := by
        rw [List.take_succ_eq_append_getElem hlt, rdN_snoc, I.out.1]; omega
      have hx0 : 0 ≤ x := by rw [I.out.1]; omega
      have hx1 : x < 16777216 := by
        have h1 := rdN_lt (xs.take i)
        have h2 : (xs.take i).length ≤ 3 := by rw [List.length_take]; have := H.out.2; omega
        have h3 := Nat.pow_le_pow_right (n := 256) (by decide) h2
        rw [I.out.1]; omega
      obtain ⟨b, hb⟩ : ∃ b, xs[i] = b := ⟨_, rfl⟩
      rw [hb] at x0 hnext
      have hb0 := b.toNat_lt
      obtain ⟨y, hy⟩ : ∃ y : Int, (b.toNat : Int) = y := ⟨_, rfl⟩
      rw [hy] at x0 hnext
      have hy0 : 0 ≤ y := by omega
      have hy1 : y < 256 := by omega
      have HN := Lib.hid hnext
      clear hnext hb hf hb0 hy
      go_wp2_with fail
      go_roundw
      case rel => exact ⟨i + 1, by omega, by go_num, _, rfl, HN.out.symm, I.out.2⟩
      case measure => simp [intOf]; omega
    · obtain rfl : i = xs.length := by omega
      go_wp2_with fail
      go_ret
      exact ⟨by rw [I.out.1, List.take_length]; rfl, I.out.2⟩
end Go.Proofs.YtlmhphejgahfbaaGreatDoor
