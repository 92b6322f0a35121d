/- Layer 12 (chain): what the program's functions on a chain do. -/
import Derived.Test.YtkcppngopdiljaaProg
import Derived.Test.YtkcppngopdiljaaSpec12
import Derived.Deep.QuietTactic
import Derived.BigQuiet
import Derived.Deep.RegionHeld3
set_option linter.unusedVariables false
set_option linter.unusedSimpArgs false
namespace Go.Proofs.Ytkcppngopdiljaa
open Go.RowKit

theorem info_u8 : (Try.prog.info? 5).map (fun i => (i.zero, i.size, i.bytes)) = some (some (.int .u8 0), 1, 1) := by kernel_rfl
theorem info_ver : (Try.prog.info? 134).map (fun i => (i.zero, i.size, i.bytes)) = some (some (.agg #[.int .i64 0, .slice none 0 0, .bool false]), 3, 40) := by kernel_rfl

/-- bytes.Clone. -/
theorem clone_ok {w : World} {F : Nat → Prop} {A : Option Addr} {n c : Nat} {xs : Bs} (h : Rd Ty.u8 w F A xs) (hn : n = xs.length) (hl : xs.length ≤ 140737488355328) :
    Calls Try.prog 31 #[.slice A n c] w fun e w' => ∃ A1 c1, e = .returned (.slice A1 xs.length c1) ∧ Ow Ty.u8 5 w' (fun k => w.heap.size ≤ k) (.slice A1 xs.length c1) xs ∧ Fr No w w' := by
  subst hn
  have q22 : ∀ (w : World) (a : Option Addr) (n c n' c' : Nat), (binOp .eql 27 (.slice a n c) (.slice none n' c')).run Try.prog w = .ok (.bool a.isNone) w := fun w a n c n' c' => Lib.run_eql_slice_nil w _ _ a n c n' c' Try.underlying27
  obtain ⟨cs, hR, hA⟩ := (h.fr0 (Fr.below ((Below.refl w.heap.size w).alloc (Nat.le_refl _) (.cells #[] 5)))).at
  cases hA0 : A with
  | none =>
    obtain rfl : xs = [] := by
      cases xs with
      | nil => rfl
      | cons x xs =>
        obtain ⟨c', d, rfl, hc, _⟩ := hR
        obtain rfl : c' = _ := hc
        obtain ⟨ad, e, _⟩ := hA 0 _ rfl
        rw [hA0] at e; cases e
    go_enter Try.func31, Try.ntmps31
    go_wp2
    go_ret
    exact ⟨none, 0, rfl, Ow.nil, Fr.refl _ _⟩
  | some ad =>
    subst hA0
    have hown : Ow Ty.u8 5 (w.alloc (.cells #[] 5)) (fun k => w.heap.size ≤ k) (.slice (some ⟨w.heap.size, 0, none⟩) 0 0) ([] : Bs) :=
      ⟨[], World.ownsRow_made w #[] 0 (Nat.zero_le _) (Nat.zero_le _) rfl, rfl, fun k hk => by simp [Value.ownBlock] at hk; omega⟩
    have hR' : Row Ty.u8 (w.alloc (.cells #[] 5)) (fun i => w.heap.size ≤ i ∧ (Value.slice (some ⟨w.heap.size, 0, none⟩) 0 0).ownBlock ≠ some i) xs cs := hR.imp fun _ _ h => h
    have H := Lib.hid (And.intro hown (And.intro hR' hA))
    clear hown hR' hA hR h
    go_enter Try.func31, Try.ntmps31
    go_wp2_with (at_builtin; refine ow_append Ty.u8 H.out.1 _ _ (.int .u8 0) 1 rfl rfl Try.underlying27 info_u8 rfl (by decide) (by decide) rfl rfl rfl H.out.2.1 H.out.2.2 (by simp; omega) ?_; intro A1 c1 w1 hown1 hg hat)
    go_ret
    simp only [List.length_nil, Nat.zero_add, List.nil_append] at hown1 ⊢
    refine ⟨A1, c1, rfl, hown1.mono fun k hk _ => by simp at hk; omega, ?_⟩
    exact ((Fr.refl No w).alloc _).grown hg fun k hk => .inr (by simp [Value.ownBlock] at hk; omega)

/-- sort.Search, of a function that only reads (it may draw): how many there are ahead of the first one of which it says yes. -/
theorem search_ok (g : Nat) (caps : Array Value) (p : Nat → Bool) (n r : Nat) (w : World) (hn : n ≤ 1000000000) (hr : r ≤ n) (h0 : ∀ i, i < r → p i = false) (h1 : ∀ i, r ≤ i → i < n → p i = true)
    (he : ∀ args w, Sem.run Try.prog (callFunc g args) w = .ok (.enter g args) w)
    (hg : ∀ i m, i < n → Calls Try.prog g (#[.int .i64 (i : Int)] ++ caps) (w.drewN m) fun e w' => e = .returned (.bool (p i)) ∧ ∃ m', w' = w.drewN m') :
    Calls Try.prog 96 #[.int .i64 n, .func (.func g) #[] caps] w fun e w' => e = .returned (.int .i64 r) ∧ ∃ m, w' = w.drewN m := by
  have HG := Lib.hid hg
  have H0 := Lib.hid h0
  have H1 := Lib.hid h1
  clear hg h0 h1
  go_enter Try.func96, Try.ntmps96
  go_wp2
  go_loopw [5, 6] (fun i j wr => ∃ a b m : Nat, a ≤ r ∧ r ≤ b ∧ b ≤ n ∧ i = .int .i64 a ∧ j = .int .i64 b ∧ wr = w.drewN m) (fun i j _ => (intOf j).toNat - (intOf i).toNat)
  case atStart => exact ⟨0, n, 0, by omega, hr, by omega, rfl, rfl, rfl⟩
  case round =>
    obtain ⟨a, b, m, ha, hb, hbn, rfl, rfl, rfl⟩ := hrel
    by_cases hab : a < b
    · obtain ⟨k, hk⟩ : ∃ k : Nat, k = (a + b) / 2 := ⟨_, rfl⟩
      have ek : ((a : Int) + b) / 2 = (k : Int) := by omega
      have hkn : k < n := by omega
      have hlo : a ≤ k := by omega
      have hhi : k < b := by omega
      have HK := Lib.hid hk
      clear hk
      cases hp : p k with
      | true =>
        have hrk : r ≤ k := by
          rcases Nat.lt_or_ge k r with h | h
          · rw [H0.out k h] at hp; cases hp
          · exact h
        go_wp2_with (refine (HG.out k _ hkn).mono ?_; rintro e w' ⟨rfl, m', rfl⟩; rw [hp])
        go_roundw
        case rel => exact ⟨a, k, m', ha, hrk, by omega, rfl, rfl, rfl⟩
        case measure => simp [intOf]; omega
      | false =>
        have hrk : k < r := by
          rcases Nat.lt_or_ge k r with h | h
          · exact h
          · rw [H1.out k h hkn] at hp; cases hp
        go_wp2_with (refine (HG.out k _ hkn).mono ?_; rintro e w' ⟨rfl, m', rfl⟩; rw [hp])
        go_roundw
        case rel => exact ⟨k + 1, b, m', by omega, hb, hbn, by go_num, rfl, rfl⟩
        case measure => simp [intOf]; omega
    · obtain rfl : a = r := by omega
      go_wp2
      go_ret
      exact ⟨rfl, m, rfl⟩

/-- A chain behind a pointer; F bounds all its blocks. -/
def ChainAt (w : World) (F : Nat → Prop) (b : Nat) (c : Chn) : Prop :=
  F b ∧ c.Ok ∧ ∃ v, w.heap[b]? = some (.cells #[v, .int .i64 c.last] 137 (0, 0)) ∧ Ow tVer 134 w (fun k => F k ∧ k ≠ b) v c.l
theorem ChainAt.stab {w w' : World} {F : Nat → Prop} {b : Nat} {c : Chn} (h : ChainAt w F b c) (k : ∀ k, F k → k < w.heap.size → w'.heap[k]? = w.heap[k]?) : ChainAt w' F b c := by
  obtain ⟨hf, ho, v, hb, hw⟩ := h
  exact ⟨hf, ho, v, (k b hf (blk_lt hb)).trans hb, hw.stab fun i hi hl => k i hi.1 hl⟩
theorem ChainAt.fr {S : Nat → Prop} {w w' : World} {F : Nat → Prop} {b : Nat} {c : Chn} (h : ChainAt w F b c) (f : Fr S w w') (hd : ∀ k, F k → ¬ S k) : ChainAt w' F b c := h.stab fun k hk hl => f.block k hl (hd k hk)
theorem ChainAt.fr0 {w w' : World} {F : Nat → Prop} {b : Nat} {c : Chn} (h : ChainAt w F b c) (f : Fr No w w') : ChainAt w' F b c := h.stab fun k hk hl => f.block k hl (fun f => f)
theorem ChainAt.mono {w : World} {F G : Nat → Prop} {b : Nat} {c : Chn} (h : ChainAt w F b c) (k : ∀ k, F k → k < w.heap.size → G k) : ChainAt w G b c := by
  obtain ⟨hf, ho, v, hb, hw⟩ := h
  exact ⟨k b hf (blk_lt hb), ho, v, hb, hw.mono fun i hi hl => ⟨k i hi.1 hl, hi.2⟩⟩

theorem chain_new (w : World) : Calls Try.prog 58 #[] w fun e w' => ∃ b, e = .returned (.pointer (some ⟨b, 0, none⟩)) ∧ ChainAt w' (fun k => w.heap.size ≤ k) b Chn.empty ∧ Fr No w w' := by
  go_enter Try.func58, Try.ntmps58
  go_wp2
  go_ret
  refine ⟨w.heap.size, rfl, ⟨Nat.le_refl _, ⟨List.Pairwise.nil, fun v hv => by cases hv⟩, _, heap_alloc_new w _, Ow.nil⟩, (Fr.refl No w).alloc _⟩

theorem chain_len_nil (w : World) : Calls Try.prog 97 #[.pointer none] w fun e w' => e = .returned (.int .i64 0) ∧ w' = w := by
  go_enter Try.func97, Try.ntmps97
  go_wp2
  go_ret
  exact ⟨rfl, rfl⟩
theorem chain_len {w : World} {F : Nat → Prop} {b : Nat} {c : Chn} (h : ChainAt w F b c) : Calls Try.prog 97 #[.pointer (some ⟨b, 0, none⟩)] w fun e w' => e = .returned (.int .i64 c.l.length) ∧ w' = w := by
  obtain ⟨hf, ho, v, hb, hw⟩ := h
  obtain ⟨A, cp, rfl, hcp, hr⟩ := hw.slice
  have c0 := blk_cell hb 0
  clear hw ho hb hr
  simp at c0
  go_enter Try.func97, Try.ntmps97
  go_wp2
  go_ret
  exact ⟨rfl, rfl⟩
theorem chain_last_nil (w : World) : Calls Try.prog 64 #[.pointer none] w fun e w' => e = .returned (.int .i64 0) ∧ w' = w := by
  go_enter Try.func64, Try.ntmps64
  go_wp2
  go_ret
  exact ⟨rfl, rfl⟩
theorem chain_last {w : World} {F : Nat → Prop} {b : Nat} {c : Chn} (h : ChainAt w F b c) : Calls Try.prog 64 #[.pointer (some ⟨b, 0, none⟩)] w fun e w' => e = .returned (.int .i64 c.last) ∧ w' = w := by
  obtain ⟨hf, ho, v, hb, hw⟩ := h
  have c0 := blk_cell hb 1
  clear hw ho hb
  simp at c0
  go_enter Try.func64, Try.ntmps64
  go_wp2
  go_ret
  exact ⟨rfl, rfl⟩

/-- The function that seen hands to the search. -/
theorem chain_seen1 {w : World} {F : Nat → Prop} {b b1 b2 : Nat} {c : Chn} {a : Int} {i : Nat} (h : ChainAt w F b c) (h1 : w.cell? ⟨b1, 0, none⟩ = some (.pointer (some ⟨b, 0, none⟩))) (h2 : w.cell? ⟨b2, 0, none⟩ = some (.int .i64 a)) (hi : i < c.l.length) :
    Calls Try.prog 98 #[.int .i64 i, .pointer (some ⟨b1, 0, none⟩), .pointer (some ⟨b2, 0, none⟩)] w fun e w' => e = .returned (.bool (decide (a < c.l[i].at_))) ∧ ∃ m, w' = w.drewN m := by
  obtain ⟨hf, ho, v, hb, hw⟩ := h
  obtain ⟨A, cp, rfl, hcp, hr⟩ := hw.slice
  obtain ⟨ad, cs, rfl, hk, e0, e1⟩ := hr.get' hi (by decide)
  obtain ⟨A', c', rfl, -, -⟩ := tVer_open hk
  have x0 := e0 _ rfl
  simp only [show tVer.sz = 3 from rfl] at x0
  have c0 := blk_cell hb 0
  have hi0 : (0 : Int) ≤ (i : Int) := Int.natCast_nonneg _
  have hi1 : (i : Int) < (c.l.length : Int) := by omega
  simp at c0
  clear hw ho hb hr hk e0 e1
  generalize c.l[i].at_ = y at x0 ⊢
  generalize c.l.length = n at *
  go_enter Try.func98, Try.ntmps98
  go_wp2
  go_quiet (fail)
  go_wp2
  go_ret
  exact ⟨rfl, _, rfl⟩

theorem seen_le (c : Chn) (a : Int) : c.seen a ≤ c.l.length := by
  unfold Chn.seen
  exact (List.takeWhile_sublist _).length_le
theorem takeWhile_lt {α : Type} (p : α → Bool) (l : List α) (i : Nat) (h : i < (l.takeWhile p).length) (h' : i < l.length) : p l[i] = true := by
  induction l generalizing i with
  | nil => simp at h
  | cons x l ih =>
    rw [List.takeWhile_cons] at h
    split at h
    · cases i with
      | zero => simpa
      | succ i => simpa using ih i (by simpa using h) (by simpa using h')
    · simp at h
theorem takeWhile_at {α : Type} (p : α → Bool) (l : List α) (h : (l.takeWhile p).length < l.length) : p (l[(l.takeWhile p).length]) = false := by
  induction l with
  | nil => simp at h
  | cons x l ih =>
    by_cases hx : p x = true
    · have e : (x :: l).takeWhile p = x :: l.takeWhile p := by rw [List.takeWhile_cons, if_pos hx]
      simp only [e, List.length_cons, List.getElem_cons_succ] at h ⊢
      exact ih (by simpa using h)
    · have e : (x :: l).takeWhile p = [] := by rw [List.takeWhile_cons, if_neg hx]
      simp only [e, List.length_nil, List.getElem_cons_zero]
      simpa using hx
theorem seen_lo (c : Chn) (a : Int) (i : Nat) (h : i < c.seen a) (h' : i < c.l.length) : c.l[i].at_ ≤ a := by
  simpa using takeWhile_lt (fun v : Ver => decide (v.at_ ≤ a)) c.l i h h'
theorem seen_hi (c : Chn) (ho : c.Ok) (a : Int) (i : Nat) (h : c.seen a ≤ i) (h' : i < c.l.length) : a < c.l[i].at_ := by
  have h0 : c.seen a < c.l.length := by omega
  have h1 := takeWhile_at (fun v : Ver => decide (v.at_ ≤ a)) c.l h0
  have h2 : a < (c.l[c.seen a]'h0).at_ := Int.not_le.1 (of_decide_eq_false h1)
  rcases Nat.lt_or_ge (c.seen a) i with h3 | h3
  · have := List.pairwise_iff_getElem.1 ho.1 (c.seen a) i h0 h' h3
    omega
  · have e : c.seen a = i := by omega
    subst e
    exact h2

theorem chain_seen {w : World} {F : Nat → Prop} {b : Nat} {c : Chn} {a : Int} (h : ChainAt w F b c) (hl : c.l.length ≤ 1000000000) :
    Calls Try.prog 73 #[.pointer (some ⟨b, 0, none⟩), .int .i64 a] w fun e w' => e = .returned (.int .i64 ((c.seen a : Int) - 1)) ∧ Fr No w w' := by
  have H : ∀ m, Fr No w (((w.alloc (.cells #[.pointer (some ⟨b, 0, none⟩)] 111)).alloc (.cells #[.int .i64 a] 2)).drewN m) := fun m => (((Fr.refl No w).alloc _).alloc _).drewN m
  have hs := search_ok 98 #[.pointer (some ⟨w.heap.size, 0, none⟩), .pointer (some ⟨w.heap.size + 1, 0, none⟩)] (fun i => if h : i < c.l.length then decide (a < c.l[i].at_) else true) c.l.length (c.seen a)
    ((w.alloc (.cells #[.pointer (some ⟨b, 0, none⟩)] 111)).alloc (.cells #[.int .i64 a] 2)) hl (seen_le c a)
    (fun i hi => by
      have hi' : i < c.l.length := Nat.lt_of_lt_of_le hi (seen_le c a)
      have := seen_lo c a i hi hi'
      simp only [dif_pos hi']; exact decide_eq_false (by omega))
    (fun i hi hi' => by
      have := seen_hi c h.2.1 a i hi hi'
      simp only [dif_pos hi']; exact decide_eq_true this)
    Try.call98
    (fun i m hi => by
      have := chain_seen1 (b1 := w.heap.size) (b2 := w.heap.size + 1) (a := a) (h.fr0 (H m)) (cell_two1 _ _ _ _) (cell_two2 _ _ _ _) hi
      simp only [hi, dif_pos]
      exact this.mono fun e w' ⟨h1, m', h2⟩ => ⟨h1, m + m', by rw [h2]; simp⟩)
  have hc := chain_len (h.fr0 (H 0))
  have HS := Lib.hid (And.intro hs hc)
  have hn : (c.seen a : Int) ≤ c.l.length := Int.ofNat_le.2 (seen_le c a)
  have hn2 : (c.l.length : Int) ≤ 1000000000 := by omega
  have hn0 : (0 : Int) ≤ c.seen a := Int.natCast_nonneg _
  clear hs hc
  generalize c.seen a = r at *
  go_enter Try.func73, Try.ntmps73
  go_wp2_with (first
    | (go_at_call 97; refine HS.out.2.mono ?_; rintro e w' ⟨rfl, rfl⟩)
    | (go_at_call 96; refine HS.out.1.mono ?_; rintro e w' ⟨rfl, m, rfl⟩))
  go_ret
  exact ⟨rfl, H m⟩
end Go.Proofs.Ytkcppngopdiljaa
