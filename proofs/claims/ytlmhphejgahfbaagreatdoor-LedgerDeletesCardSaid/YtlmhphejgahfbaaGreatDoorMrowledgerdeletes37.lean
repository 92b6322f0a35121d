/- Texts of this claim, one behind the other: FitP, FirstP. -/
import Derived.Test.YtlmhphejgahfbaaGreatDoorMrowledgerdeletesKFit
import Derived.Test.YtlmhphejgahfbaaGreatDoorMrowledgerdeletesKTxt
import Derived.Test.YtlmhphejgahfbaaGreatDoorMrowledgerdeletes34
import Derived.Test.YtlmhphejgahfbaaGreatDoorMrowledgerdeletes22
/- What Fit makes: it fits its table; keys tell it apart. -/
set_option linter.unusedVariables false
set_option linter.unusedSimpArgs false
namespace Go.Proofs.YtlmhphejgahfbaaGreatDoor

/-- The values that Fit makes. -/
def fitAll : List Val := (0, 0, ⟨#[]⟩) :: (((List.range 8).map fun k : Nat => vI ((k : Int) - 2)) ++ (List.range 4).map fun k : Nat => ((2, 0, textOf k) : Val))
theorem fitV_mem (c : Col) (b : UInt8) : fitV c b ∈ fitAll := by
  unfold fitV fitAll
  split
  · exact List.mem_cons_self ..
  · split
    · exact List.mem_cons_of_mem _ (List.mem_append_left _ (List.mem_map.2 ⟨b.toNat % 8, List.mem_range.2 (by omega), rfl⟩))
    · exact List.mem_cons_of_mem _ (List.mem_append_right _ (List.mem_map.2 ⟨b.toNat % 4, List.mem_range.2 (by omega), rfl⟩))
/-- Neither begins the other. -/
def apartB : Bs → Bs → Bool
  | a :: l, b :: m => !decide (a = b) || apartB l m
  | _, _ => false
theorem apart_append {l m : Bs} (h : apartB l m = true) (x y : Bs) : l ++ x ≠ m ++ y := by
  induction l generalizing m with
  | nil => cases h
  | cons a l ih =>
    cases m with
    | nil => cases h
    | cons b m =>
      unfold apartB at h
      intro e
      rw [List.cons_append, List.cons_append] at e
      injection e with e1 e2
      rw [decide_eq_true e1] at h
      exact ih (by simpa using h) e2
theorem fit_apart : (fitAll.all fun a => fitAll.all fun b => decide (a = b) || apartB (oneB a) (oneB b)) = true := by decide +kernel
theorem fit_apart' {a b : Val} (ha : a ∈ fitAll) (hb : b ∈ fitAll) (hne : a ≠ b) : apartB (oneB a) (oneB b) = true := by
  have h := List.all_eq_true.1 (List.all_eq_true.1 fit_apart a ha) b hb
  rw [decide_eq_false hne] at h
  simpa using h
theorem flat_inj {l m : List Val} (hl : ∀ v ∈ l, v ∈ fitAll) (hm : ∀ v ∈ m, v ∈ fitAll) (hn : l.length = m.length) (h : l.flatMap oneB = m.flatMap oneB) : l = m := by
  induction l generalizing m with
  | nil => exact (List.eq_nil_of_length_eq_zero hn.symm).symm
  | cons a l ih =>
    cases m with
    | nil => cases hn
    | cons b m =>
      rw [List.flatMap_cons, List.flatMap_cons] at h
      by_cases hab : a = b
      · subst hab
        rw [ih (fun v hv => hl v (List.mem_cons_of_mem _ hv)) (fun v hv => hm v (List.mem_cons_of_mem _ hv)) (by simpa using hn) (List.append_cancel_left h)]
      · exact absurd h (apart_append (fit_apart' (hl _ (List.mem_cons_self ..)) (hm _ (List.mem_cons_self ..)) hab) _ _)
theorem keyS_inj {t : Nat} {l m : List Val} (hl : ∀ v ∈ l, v ∈ fitAll) (hm : ∀ v ∈ m, v ∈ fitAll) (hn : l.length = m.length) (h : keyS t l = keyS t m) : l = m := by
  unfold keyS at h
  have h1 := congrArg (fun b : ByteArray => b.data.toList) h
  simp only [List.toList_toArray] at h1
  injection h1 with _ h2
  exact flat_inj hl hm hn h2
theorem fit_mem {cols : List Col} {l : Bs} {n : Nat} {v : Val} (h : v ∈ fit cols l n) : v ∈ fitAll := by
  unfold fit at h
  obtain ⟨i, _, rfl⟩ := List.mem_map.1 h
  exact fitV_mem _ _
theorem fitAll_good {v : Val} (h : v ∈ fitAll) : GoodV v := by
  unfold fitAll at h
  rcases List.mem_cons.1 h with rfl | h
  · exact good_null
  · rcases List.mem_append.1 h with h | h
    · obtain ⟨k, hk, rfl⟩ := List.mem_map.1 h
      have := List.mem_range.1 hk
      exact good_int _ (by omega) (by omega)
    · obtain ⟨k, hk, rfl⟩ := List.mem_map.1 h
      exact good_text k (by have := List.mem_range.1 hk; omega)
theorem textOf_size {k : Nat} (h : k ≤ 3) : (textOf k).size ≤ 3 := by
  have : k = 0 ∨ k = 1 ∨ k = 2 ∨ k = 3 := by omega
  rcases this with rfl | rfl | rfl | rfl <;> decide
theorem fitV_fits {c : Col} (h : c.2.1 = 1 ∨ c.2.1 = 2) (b : UInt8) : valFits c (fitV c b) := by
  unfold fitV
  split
  · rename_i h1
    exact ⟨.inl ⟨rfl, rfl, rfl⟩, .inl ⟨rfl, h1.1⟩⟩
  · split
    · rename_i h1 h2
      exact ⟨.inr (.inl ⟨rfl, rfl⟩), .inr h2.symm⟩
    · rename_i h1 h2
      exact ⟨.inr (.inr ⟨rfl, rfl, Nat.le_trans (textOf_size (k := b.toNat % 4) (by omega)) (by decide)⟩), .inr (h.resolve_left h2).symm⟩
theorem fit_get {cols : List Col} {l : Bs} {n i : Nat} (h : i < (fit cols l n).length) (hc : i < cols.length) : (fit cols l n)[i] = fitV cols[i] (l.getD i 0) := by
  unfold fit at h ⊢
  rw [List.getElem_map, List.getElem_range]
  unfold fitAt
  rw [List.getD_eq_getElem?_getD, List.getElem?_eq_getElem hc]
  rfl
/-- A row of a table, as Fit makes it. -/
theorem fit_row {tabs : List Tab} (hok : TabsOk tabs) {t k : Nat} (ht : t < tabs.length) (hk : (tabs[t]'ht).2.2 = (k : Int)) (l : Bs) : RowFits tabs t k (fit (tabs[t]'ht).2.1 l (tabs[t]'ht).2.1.length) := by
  have hT := hok.each _ (List.getElem_mem ht)
  refine ⟨ht, hok.most, hk, fit_len _ _ _, ?_, ?_, fun i h h' => ?_, fun v hv => fitAll_good (fit_mem hv)⟩
  · rw [fit_len]; have := hT.fit; omega
  · rw [fit_len]; exact hT.most
  · rw [fit_get h h']
    exact fitV_fits (hT.kind i h') _
/-- Sharper: a row of Fit's is short. -/
theorem fit_short {tabs : List Tab} (hok : TabsOk tabs) {t k : Nat} (ht : t < tabs.length) (hk : (tabs[t]'ht).2.2 = (k : Int)) (l : Bs) :
    1 ≤ (rowW t k (fit (tabs[t]'ht).2.1 l (tabs[t]'ht).2.1.length)).key.size ∧ (rowW t k (fit (tabs[t]'ht).2.1 l (tabs[t]'ht).2.1.length)).key.size ≤ 1000 ∧ (rowW t k (fit (tabs[t]'ht).2.1 l (tabs[t]'ht).2.1.length)).row.length ≤ 4000 ∧
      ((rowW t k (fit (tabs[t]'ht).2.1 l (tabs[t]'ht).2.1.length)).gone = true → (rowW t k (fit (tabs[t]'ht).2.1 l (tabs[t]'ht).2.1.length)).row = []) := by
  have hT := hok.each _ (List.getElem_mem ht)
  have hm8 := hT.most
  obtain ⟨row, hrow⟩ : ∃ row, fit (tabs[t]'ht).2.1 l (tabs[t]'ht).2.1.length = row := ⟨_, rfl⟩
  have hlen : row.length ≤ 8 := by rw [← hrow, fit_len]; exact hm8
  have hmem : ∀ v ∈ row, v ∈ fitAll := fun v hv => fit_mem (by rw [hrow]; exact hv)
  rw [hrow]
  have e1 : (fitAll.all fun v => decide ((oneB v).length ≤ 20 ∧ (encB v).length ≤ 20)) = true := by decide +kernel
  have h20 : ∀ v ∈ row, (oneB v).length ≤ 20 ∧ (encB v).length ≤ 20 := fun v hv => by simpa using List.all_eq_true.1 e1 v (hmem v hv)
  have h1 := flat_le (f := encB) (m := 20) (l := row) fun v hv => (h20 v hv).2
  have h2 := flat_le (f := oneB) (m := 20) (l := row.take k) fun v hv => (h20 v (List.mem_of_mem_take hv)).1
  have h3 : (row.take k).length ≤ 8 := by rw [List.length_take]; omega
  have hks : (rowW t k row).key.size = ((row.take k).flatMap oneB).length + 1 := by
    show ((UInt8.ofNat t :: (row.take k).flatMap oneB).toArray).size = _
    rw [List.size_toArray, List.length_cons]
  have hrl : (rowW t k row).row.length = (row.flatMap encB).length + 1 := by
    show (UInt8.ofNat row.length :: row.flatMap encB).length = _
    rw [List.length_cons]
  refine ⟨by omega, by omega, by omega, fun h => by cases h⟩
end Go.Proofs.YtlmhphejgahfbaaGreatDoor
/- Layer 15: two transactions that write one row each: what comes of it, in plain words. -/
set_option linter.unusedVariables false
set_option linter.unusedSimpArgs false
namespace Go.Proofs.YtlmhphejgahfbaaGreatDoor

theorem find_dropped (L : Led) (ids : List Int) (id : Int) : (L.dropped ids).find id = if id ∈ ids then none else L.find id := by
  unfold Led.dropped
  induction ids generalizing L with
  | nil => simp
  | cons a ids ih =>
    rw [List.foldl_cons, ih, find_without]
    by_cases h1 : id ∈ ids
    · rw [if_pos h1, if_pos (List.mem_cons_of_mem _ h1)]
    · rw [if_neg h1]
      by_cases h2 : id = a
      · rw [if_pos h2, if_pos (by rw [h2]; exact List.mem_cons_self ..)]
      · rw [if_neg h2, if_neg (by simp [h1, h2])]
theorem find_publish (L : Led) (ws : List Wr) (ids : List Int) (id : Int) : (L.publish ws ids).find id = if id ∈ ids then none else L.find id := by
  unfold Led.publish
  split
  · exact find_dropped L ids id
  · exact find_dropped (L.applied ws) ids id
theorem publish_now (L : Led) (ws : List Wr) (ids : List Int) (h : ws ≠ []) : (L.publish ws ids).s.now = L.s.now + 1 := by
  unfold Led.publish
  rw [if_neg h]
  show ((L.applied ws).dropped ids).s.now = _
  rw [(dropped_parts (L.applied ws) ids).2.1]
  rfl
theorem publish_tabs (L : Led) (ws : List Wr) (ids : List Int) : (L.publish ws ids).tabs = L.tabs := by
  unfold Led.publish
  split
  · exact (dropped_parts L ids).1
  · exact (dropped_parts (L.applied ws) ids).1
theorem publish_next (L : Led) (ws : List Wr) (ids : List Int) : (L.publish ws ids).next = L.next := by
  unfold Led.publish
  split
  · exact (dropped_parts L ids).2.2.1
  · exact (dropped_parts (L.applied ws) ids).2.2.1
theorem publish_sto (L : Led) (ws : List Wr) (ids : List Int) (h : ws ≠ []) : ∃ b, (L.publish ws ids).s = (⟨ws.foldl (Sto.put1 (L.s.now + 1)) L.s.kc, L.s.now + 1⟩ : Sto).trim b := by
  unfold Led.publish
  rw [if_neg h]
  refine ⟨((L.applied ws).dropped ids).below, ?_⟩
  show ((L.applied ws).dropped ids).s.trim ((L.applied ws).dropped ids).below = _
  rw [(dropped_parts (L.applied ws) ids).2.1]
  rfl
theorem look_map_snd {β γ : Type} (f : β → γ) (k : ByteArray) (l : List (ByteArray × β)) : look k (l.map fun p => (p.1, f p.2)) = (look k l).map f := by
  induction l with
  | nil => rfl
  | cons p l ih =>
    rw [List.map_cons]
    unfold look
    by_cases h : p.1 = k
    · simp [h]
    · simp [h]
      simpa [look] using ih
theorem trim_last (s : Sto) (a : Int) (k : ByteArray) : (s.trim a).last k = s.last k := by
  show ((look k (s.kc.map fun p => (p.1, p.2.trim a))).getD Chn.empty).last = ((look k s.kc).getD Chn.empty).last
  rw [look_map_snd (fun c => Chn.trim c a)]
  cases look k s.kc with
  | none => rfl
  | some c => rfl
/-- Two begun; each has written a row. -/
def twoL (T : List Tab) (W1 W2 : Wr) : Led := (((Led.new T).begin_.begin_).setTx 1 [W1]).setTx 2 [W2]
/-- Of two numbers the other. -/
structure Pair (p q : Int) : Prop where
  h : (p = 1 ∧ q = 2) ∨ (p = 2 ∧ q = 1)
def pick (p : Int) (W1 W2 : Wr) : Wr := if p = 1 then W1 else W2
theorem two_find {T : List Tab} {W1 W2 : Wr} {p q : Int} (h : Pair p q) : (twoL T W1 W2).find p = some ⟨p, 0, [pick p W1 W2]⟩ := by
  rcases h.h with ⟨rfl, rfl⟩ | ⟨rfl, rfl⟩ <;> rfl
theorem Pair.swap {p q : Int} (h : Pair p q) : Pair q p := ⟨h.h.symm.imp (fun h => ⟨h.2, h.1⟩) (fun h => ⟨h.2, h.1⟩)⟩
theorem Pair.ne {p q : Int} (h : Pair p q) : q ≠ p := by rcases h.h with ⟨rfl, rfl⟩ | ⟨rfl, rfl⟩ <;> decide
section
variable {T : List Tab} {W1 W2 : Wr} {p q : Int}
theorem two_form1 (h : Pair p q) : (twoL T W1 W2).formN [p] 1 = ([0], [pick p W1 W2]) := by
  have h1 := formN_ok (L := twoL T W1 W2) (ids := [p]) (k := 0) (Nat.lt_succ_self 0) (two_find (T := T) h) (by simp) rfl
  exact h1
theorem two_form2 (h : Pair p q) : (twoL T W1 W2).formN [p, q] 2 = if (pick p W1 W2).key = (pick q W1 W2).key then ([0, 7], [pick p W1 W2]) else ([0, 0], [pick p W1 W2, pick q W1 W2]) := by
  have h1 : (twoL T W1 W2).formN [p, q] 1 = (((twoL T W1 W2).formN [p, q] 0).1 ++ [0], ((twoL T W1 W2).formN [p, q] 0).2 ++ [pick p W1 W2]) := formN_ok (L := twoL T W1 W2) (ids := [p, q]) (k := 0) (show 0 < 2 by decide) (two_find (T := T) h) (by simp) rfl
  rw [show (twoL T W1 W2).formN [p, q] 0 = ([], []) from rfl] at h1
  have hs : ¬ ([p, q] : List Int)[1] ∈ ([p, q] : List Int).take 1 := by simpa using h.ne
  have hlast : (decide ((0 : Int) < (twoL T W1 W2).s.last (pick q W1 W2).key)) = false := decide_eq_false (by show ¬ (0 : Int) < 0; decide)
  have hb : (twoL T W1 W2).bars ⟨q, 0, [pick q W1 W2]⟩ ((twoL T W1 W2).formN [p, q] 1).2 = decide ((pick p W1 W2).key = (pick q W1 W2).key) := by
    rw [h1]
    unfold Led.bars
    simp only [List.any_cons, List.any_nil, Bool.or_false, hlast, Bool.false_or, hasK_map, List.nil_append]
  by_cases hk : (pick p W1 W2).key = (pick q W1 W2).key
  · rw [if_pos hk]
    rw [decide_eq_true hk] at hb
    have := formN_bars (L := twoL T W1 W2) (ids := [p, q]) (k := 1) (show 1 < 2 by decide) (two_find (T := T) h.swap) hs hb
    rw [h1] at this
    exact this
  · rw [if_neg hk]
    rw [decide_eq_false hk] at hb
    have := formN_ok (L := twoL T W1 W2) (ids := [p, q]) (k := 1) (show 1 < 2 by decide) (two_find (T := T) h.swap) hs hb
    rw [h1] at this
    exact this
theorem two_last (h : Pair p q) (k : ByteArray) : ((twoL T W1 W2).publish [pick p W1 W2] [p]).s.last k = if k = (pick p W1 W2).key then 1 else 0 := by
  obtain ⟨b, hb⟩ := publish_sto (twoL T W1 W2) [pick p W1 W2] [p] (by simp)
  rw [hb, trim_last]
  show ((look k [((pick p W1 W2).key, (Chn.empty.put 1 (pick p W1 W2).row (pick p W1 W2).gone))]).getD Chn.empty).last = _
  unfold look
  by_cases hk : k = (pick p W1 W2).key
  · subst hk; simp; rfl
  · have hk' : ¬ (pick p W1 W2).key = k := fun e => hk e.symm
    simp [hk, hk']; rfl
theorem two_form3 (h : Pair p q) : ((twoL T W1 W2).publish [pick p W1 W2] [p]).formN [q] 1 = if (pick p W1 W2).key = (pick q W1 W2).key then ([7], []) else ([0], [pick q W1 W2]) := by
  obtain ⟨L5, hL5⟩ : ∃ L5, (twoL T W1 W2).publish [pick p W1 W2] [p] = L5 := ⟨_, rfl⟩
  have hf : L5.find q = some ⟨q, 0, [pick q W1 W2]⟩ := by rw [← hL5, find_publish, if_neg (by simpa using h.ne)]; exact two_find h.swap
  have hlast := two_last (T := T) (W1 := W1) (W2 := W2) h (pick q W1 W2).key
  rw [hL5] at hlast ⊢
  have hb : L5.bars ⟨q, 0, [pick q W1 W2]⟩ (L5.formN [q] 0).2 = decide ((pick p W1 W2).key = (pick q W1 W2).key) := by
    unfold Led.bars
    rw [show (L5.formN [q] 0).2 = [] from rfl]
    simp only [List.any_cons, List.any_nil, Bool.or_false, hlast, hasK_map]
    by_cases hk : (pick p W1 W2).key = (pick q W1 W2).key
    · rw [hk]; simp
    · have hk' : ¬ (pick q W1 W2).key = (pick p W1 W2).key := fun e => hk e.symm
      simp [hk, hk']
  by_cases hk : (pick p W1 W2).key = (pick q W1 W2).key
  · rw [if_pos hk]
    rw [decide_eq_true hk] at hb
    exact formN_bars (L := L5) (ids := [q]) (k := 0) (Nat.lt_succ_self 0) hf (by simp) hb
  · rw [if_neg hk]
    rw [decide_eq_false hk] at hb
    exact formN_ok (L := L5) (ids := [q]) (k := 0) (Nat.lt_succ_self 0) hf (by simp) hb
end
end Go.Proofs.YtlmhphejgahfbaaGreatDoor
