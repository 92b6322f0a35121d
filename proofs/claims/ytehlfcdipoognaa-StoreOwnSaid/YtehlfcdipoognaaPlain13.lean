/- Layer 13 (store): what is seen at a number stays so, whatever comes behind or is let go: plain facts. -/
import Derived.Test.YtehlfcdipoognaaLaw3
set_option linter.unusedVariables false
set_option linter.unusedSimpArgs false
namespace Go.Proofs.Ytehlfcdipoognaa

/-! ### One chain -/
def seenRow (o : Option Ver) : Option Bs := o.bind fun v => if v.gone then none else some v.row
theorem get_eq (c : Chn) (a : Int) : c.get a = seenRow (c.l.takeWhile fun v => decide (v.at_ ≤ a)).getLast? := by
  unfold Chn.get seenRow Chn.seen
  obtain ⟨p, hp⟩ : ∃ p, (fun v : Ver => decide (v.at_ ≤ a)) = p := ⟨_, rfl⟩
  rw [hp]
  rw [List.getLast?_eq_getElem?]
  rcases Nat.eq_zero_or_pos (c.l.takeWhile p).length with h0 | h0
  · have : c.l.takeWhile p = [] := List.eq_nil_of_length_eq_zero h0
    rw [this]
    simp
    split <;> simp
  · have hpre : c.l.takeWhile p <+: c.l := List.takeWhile_prefix p
    have e : c.l[(c.l.takeWhile p).length - 1]? = (c.l.takeWhile p)[(c.l.takeWhile p).length - 1]? := by
      obtain ⟨t, ht⟩ := hpre
      conv => lhs; rw [← ht]
      have : ∀ (x t : List Ver), 0 < x.length → (x ++ t)[x.length - 1]? = x[x.length - 1]? := fun x t hx => List.getElem?_append_left (by omega)
      have h2 := this (c.l.takeWhile p) t h0
      rw [ht] at h2 ⊢
      exact h2
    rw [e]
    cases h : (c.l.takeWhile p)[(c.l.takeWhile p).length - 1]? with
    | none => rfl
    | some v => simp; intro h'; rw [h'] at h0; simp at h0
theorem get_put {c : Chn} {a n : Int} (h : a < n) (row : Bs) (gone : Bool) : (c.put n row gone).get a = c.get a := by
  rw [get_eq, get_eq]
  congr 2
  show List.takeWhile _ (c.l ++ [_]) = _
  rw [List.takeWhile_append]
  have hv : List.takeWhile (fun v : Ver => decide (v.at_ ≤ a)) [⟨n, row, gone⟩] = [] := by
    rw [List.takeWhile_cons, show decide ((⟨n, row, gone⟩ : Ver).at_ ≤ a) = false from decide_eq_false (by show ¬ (n ≤ a); omega)]
    rfl
  rw [hv]
  split
  · rename_i he
    rw [List.append_nil]
    have hpre : c.l.takeWhile (fun v => decide (v.at_ ≤ a)) <+: c.l := List.takeWhile_prefix _
    exact (hpre.eq_of_length he).symm
  · rfl
theorem takeWhile_drop {α : Type} (p : α → Bool) (l : List α) (j : Nat) (h : j ≤ (l.takeWhile p).length) : (l.drop j).takeWhile p = (l.takeWhile p).drop j := by
  induction l generalizing j with
  | nil => simp
  | cons x l ih =>
    cases j with
    | zero => rfl
    | succ j =>
      cases hx : p x with
      | false => simp [hx] at h
      | true =>
        simp only [List.takeWhile_cons, hx, if_true] at h ⊢
        simp only [List.drop_succ_cons]
        exact ih j (by simpa using h)
theorem seen_mono (c : Chn) {a b : Int} (h : a ≤ b) : c.seen a ≤ c.seen b := by
  unfold Chn.seen
  induction c.l with
  | nil => simp
  | cons x l ih =>
    simp only [List.takeWhile_cons]
    by_cases hx : x.at_ ≤ a
    · rw [if_pos (by simpa using hx), if_pos (by simp; omega)]
      simpa using ih
    · rw [if_neg (by simpa using hx)]; simp
theorem pre_get {α : Type} {l m : List α} (h : l <+: m) {i : Nat} (hi : i < l.length) : l[i]? = m[i]? := by
  obtain ⟨t, rfl⟩ := h
  rw [List.getElem?_append_left hi]
theorem cut_cases (c : Chn) (a : Int) : (c.seen a = 0 ∧ c.cut a = 0) ∨ (∃ v, c.seen a ≠ 0 ∧ (c.l.takeWhile fun v => decide (v.at_ ≤ a)).getLast? = some v ∧ ((v.gone = true ∧ c.cut a = c.seen a) ∨ (v.gone = false ∧ c.cut a = c.seen a - 1))) := by
  rcases Nat.eq_zero_or_pos (c.seen a) with h0 | h0
  · exact .inl ⟨h0, cut_none h0⟩
  · right
    have hle := seen_le c a
    obtain ⟨i, hi⟩ : ∃ i, c.seen a = i + 1 := ⟨c.seen a - 1, by omega⟩
    have hil : i < c.l.length := by omega
    have hcut := cut_at hi hil
    have hlast : (c.l.takeWhile fun v => decide (v.at_ ≤ a)).getLast? = some c.l[i] := by
      have hlen : (c.l.takeWhile fun v => decide (v.at_ ≤ a)).length = i + 1 := hi
      rw [List.getLast?_eq_getElem?, hlen, Nat.add_sub_cancel, pre_get (List.takeWhile_prefix _) (by omega), List.getElem?_eq_getElem hil]
    refine ⟨c.l[i], by omega, hlast, ?_⟩
    cases hg : c.l[i].gone with
    | true => rw [hg] at hcut; exact .inl ⟨rfl, by rw [hcut, hi]; rfl⟩
    | false => rw [hg] at hcut; exact .inr ⟨rfl, by rw [hcut, hi]; rfl⟩
theorem cut_seen (c : Chn) (a : Int) : c.cut a ≤ c.seen a := by
  rcases cut_cases c a with ⟨h1, h2⟩ | ⟨v, h0, _, ⟨_, h⟩ | ⟨_, h⟩⟩ <;> omega
theorem get_trim (c : Chn) {a b : Int} (h : b ≤ a) : (c.trim b).get a = c.get a := by
  have hle := cut_seen c b
  have hm := seen_mono c h
  rw [get_eq, get_eq]
  show seenRow ((c.l.drop (c.cut b)).takeWhile _).getLast? = _
  rw [takeWhile_drop _ c.l _ (show c.cut b ≤ (c.l.takeWhile fun v => decide (v.at_ ≤ a)).length from Nat.le_trans hle hm), List.getLast?_drop]
  split
  · rename_i hc
    have hc : c.seen a ≤ c.cut b := hc
    rcases cut_cases c b with ⟨h1, h2⟩ | ⟨v, h0, hv, ⟨hg, hk⟩ | ⟨hg, hk⟩⟩
    · have : c.l.takeWhile (fun v => decide (v.at_ ≤ a)) = [] := List.eq_nil_of_length_eq_zero (show c.seen a = 0 by omega)
      rw [this]; rfl
    · have e : c.l.takeWhile (fun v => decide (v.at_ ≤ b)) = c.l.takeWhile (fun v => decide (v.at_ ≤ a)) :=
        (List.prefix_of_prefix_length_le (List.takeWhile_prefix _) (List.takeWhile_prefix _) hm).eq_of_length (show c.seen b = c.seen a by omega)
      rw [← e, hv]
      simp [seenRow, hg]
    · omega
  · rfl
theorem trim_seen (c : Chn) (b : Int) : (c.trim b).seen b = c.seen b - c.cut b := by
  show ((c.l.drop (c.cut b)).takeWhile _).length = _
  rw [takeWhile_drop _ c.l _ (cut_seen c b), List.length_drop]
  rfl
theorem trim_cut (c : Chn) (b : Int) : (c.trim b).cut b = 0 := by
  have hs := trim_seen c b
  rcases cut_cases c b with ⟨h1, h2⟩ | ⟨v, h0, hv, ⟨hg, hk⟩ | ⟨hg, hk⟩⟩
  · exact cut_none (by omega)
  · exact cut_none (by omega)
  · rcases cut_cases (c.trim b) b with ⟨h1, h2⟩ | ⟨v', h0', hv', ⟨hg', hk'⟩ | ⟨hg', hk'⟩⟩
    · exact h2
    · exfalso
      have e : ((c.trim b).l.takeWhile fun v => decide (v.at_ ≤ b)) = (c.l.takeWhile fun v => decide (v.at_ ≤ b)).drop (c.cut b) := takeWhile_drop _ c.l _ (cut_seen c b)
      rw [e, List.getLast?_drop, if_neg (by show ¬ (c.seen b ≤ c.cut b); omega), hv] at hv'
      injection hv' with hv'
      rw [← hv', hg] at hg'
      cases hg'
    · omega

/-! ### A store -/
theorem slay_filterMap {β γ : Type} {k : ByteArray} {v : β} {l : List (ByteArray × β)} (h : Rising (l.map Prod.fst)) (f : ByteArray × β → Option γ) (hf : f (k, v) = (look k l).bind fun u => f (k, u)) : (slay k v l).filterMap f = l.filterMap f := by
  induction l with
  | nil =>
    unfold slay
    rw [List.filterMap_cons, hf]; rfl
  | cons p l ih =>
    obtain ⟨h1, h2⟩ := List.pairwise_cons.1 h
    unfold slay
    split
    · rename_i hk
      have hn : look k (p :: l) = none := look_none_iff.2 fun hm => by
        rcases List.mem_cons.1 hm with e | hm
        · subst e; rw [kl_irrefl] at hk; cases hk
        · have := h1 _ hm
          have := kl_asymm (kl_trans hk this)
          rw [kl_trans hk ‹_›] at this; cases this
      rw [List.filterMap_cons, hf, hn]; rfl
    · split
      · rename_i hk
        subst hk
        have hs : look p.1 (p :: l) = some p.2 := by simp [look]
        rw [List.filterMap_cons, hf, hs, List.filterMap_cons]; rfl
      · rename_i hk
        rw [List.filterMap_cons, List.filterMap_cons, ih h2 (by rw [hf]; simp only [look, if_neg (fun e : p.1 = k => hk e.symm)])]
def allF (a : Int) (lo hi : ByteArray) (p : ByteArray × Chn) : Option Item :=
  match p.2.get a with
  | some row => if kl p.1 lo = false ∧ (hi.size = 0 ∨ kl p.1 hi = true) then some (p.1, row) else none
  | none => none
theorem all_eq (s : Sto) (a : Int) (lo hi : ByteArray) : s.all a lo hi = s.kc.filterMap (allF a lo hi) := rfl
theorem allF_congr {a : Int} {lo hi k : ByteArray} {c c' : Chn} (h : c.get a = c'.get a) : allF a lo hi (k, c) = allF a lo hi (k, c') := by
  unfold allF; simp only [h]
theorem fold_all {n a : Int} {kc : List (ByteArray × Chn)} (h : a < n) (hr : Rising (kc.map Prod.fst)) (l : List Wr) (lo hi : ByteArray) : (l.foldl (Sto.put1 n) kc).filterMap (allF a lo hi) = kc.filterMap (allF a lo hi) := by
  induction l generalizing kc with
  | nil => rfl
  | cons x l ih =>
    rw [List.foldl_cons, ih (kc := Sto.put1 n kc x) (slay_rising hr)]
    refine slay_filterMap hr _ ?_
    rw [allF_congr (get_put h x.row x.gone)]
    cases look x.key kc with
    | none => rfl
    | some c => rfl
theorem apply_all {s : Sto} {m : Nat} (h : s.Fine m) (n : Int) (ws : List Wr) {a : Int} (ha : a ≤ s.now) (lo hi : ByteArray) : (s.apply n ws).1.all a lo hi = s.all a lo hi := by
  unfold Sto.apply
  split
  · rfl
  · split
    · rename_i hn
      exact fold_all (by omega) h.rising ws lo hi
    · rfl
theorem apply_now (s : Sto) (n : Int) (ws : List Wr) : s.now ≤ (s.apply n ws).1.now := by
  unfold Sto.apply
  split
  · exact Int.le_refl _
  · split
    · rename_i hn; show s.now ≤ n; omega
    · exact Int.le_refl _
theorem stStep_all {s : Sto} {m : Nat} (h : s.Fine m) (x : List Actn) {a : Int} (ha : a ≤ s.now) (lo hi : ByteArray) : (stStep s x).all a lo hi = s.all a lo hi ∧ s.now ≤ (stStep s x).now := by
  unfold stStep
  split
  · exact ⟨rfl, Int.le_refl _⟩
  · exact ⟨apply_all h _ _ ha lo hi, apply_now _ _ _⟩
theorem stAll_scan {s : Sto} {m : Nat} (h : s.Fine m) (ls : List (List Actn)) {a : Int} (ha : a ≤ s.now) (lo hi : ByteArray) (most : Int) : (stAll s ls).scan a lo hi most = s.scan a lo hi most := by
  have : (stAll s ls).all a lo hi = s.all a lo hi := by
    unfold stAll
    induction ls generalizing s m with
    | nil => rfl
    | cons x ls ih =>
      have h1 := stStep_all h x ha lo hi
      rw [List.foldl_cons, ih (stStep_fine h x) (by omega), h1.1]
  unfold Sto.scan
  rw [this]
theorem trim_scan (s : Sto) {a b : Int} (h : b ≤ a) (lo hi : ByteArray) (most : Int) : (s.trim b).scan a lo hi most = s.scan a lo hi most := by
  have : (s.trim b).all a lo hi = s.all a lo hi := by
    rw [all_eq, all_eq]
    show (s.kc.map _).filterMap _ = _
    rw [List.filterMap_map]
    congr 1
    funext p
    exact allF_congr (get_trim p.2 h)
  unfold Sto.scan
  rw [this]
theorem sum_sub (l : List (ByteArray × Chn)) (f g : Chn → Nat) (h : ∀ c, g c ≤ f c) : (l.map fun p => f p.2 - g p.2).sum + (l.map fun p => g p.2).sum = (l.map fun p => f p.2).sum := by
  induction l with
  | nil => rfl
  | cons p l ih =>
    simp only [List.map_cons, List.sum_cons]
    have := h p.2
    omega
theorem trim_len (s : Sto) (b : Int) : (s.trim b).len + s.cut b = s.len := by
  have := sum_sub s.kc (fun c => c.l.length) (fun c => c.cut b) (fun c => cut_le c b)
  show ((s.kc.map _).map _).sum + _ = _
  rw [List.map_map]
  refine Eq.trans ?_ this
  congr 2
  refine List.map_congr_left fun p _ => ?_
  show (p.2.l.drop _).length = _
  rw [List.length_drop]
theorem trim_cut0 (s : Sto) (b : Int) : (s.trim b).cut b = 0 := by
  show ((s.kc.map _).map _).sum = 0
  rw [List.map_map]
  induction s.kc with
  | nil => rfl
  | cons p l ih =>
    rw [List.map_cons, List.sum_cons, ih]
    exact trim_cut p.2 b
theorem Sto.Fine.trim {s : Sto} {m : Nat} (h : s.Fine m) (b : Int) : (s.trim b).Fine m := by
  have hk : (s.trim b).kc.map Prod.fst = s.kc.map Prod.fst := by show (s.kc.map _).map _ = _; rw [List.map_map]; rfl
  refine ⟨⟨h.small.now0, h.small.now1, by show (s.kc.map _).length ≤ m; rw [List.length_map]; exact h.small.keys, fun p hp => ?_, fun p hp => ?_⟩, by rw [hk]; exact h.rising, fun p hp => ?_⟩
  all_goals
    obtain ⟨q, hq, rfl⟩ := List.mem_map.1 (show p ∈ s.kc.map fun p => (p.1, p.2.trim b) from hp)
  · exact h.small.ksz q hq
  · have := h.small.chains q hq
    exact ⟨Nat.le_trans (by show (q.2.l.drop _).length ≤ _; rw [List.length_drop]; omega) this.1, this.2.1, fun v hv => this.2.2 v (List.mem_of_mem_drop hv)⟩
  · exact Chn.ok_trim (h.oks q hq) b
/-- All keys of what is stored by numbers have two bytes. -/
def Two (s : Sto) : Prop := ∀ k ∈ s.kc.map Prod.fst, k.size = 2
theorem stStep_two {s : Sto} (h : Two s) (x : List Actn) : Two (stStep s x) := by
  unfold stStep
  split
  · exact h
  · unfold Sto.apply
    split
    · exact h
    · split
      · intro k hk
        rcases (fold_keys (batchW x) k).1 hk with hk | hk
        · exact h k hk
        · obtain ⟨y, hy, rfl⟩ := List.mem_map.1 hk
          exact (batchW_mem hy).1
      · exact h
theorem stAll_two {s : Sto} (h : Two s) (ls : List (List Actn)) : Two (stAll s ls) := by
  unfold stAll
  induction ls generalizing s with
  | nil => exact h
  | cons x ls ih => exact ih (stStep_two h x)
theorem two_last {s : Sto} (h : Two s) (b : Int) {k : ByteArray} (hk : k.size ≠ 2) : (s.trim b).last k = 0 := by
  have hn : look k (s.trim b).kc = none := look_none_iff.2 fun hm => by
    have e : (s.trim b).kc.map Prod.fst = s.kc.map Prod.fst := by show (s.kc.map _).map _ = _; rw [List.map_map]; rfl
    rw [e] at hm
    exact hk (h k hm)
  unfold Sto.last Sto.of
  rw [hn]; rfl
end Go.Proofs.Ytehlfcdipoognaa
