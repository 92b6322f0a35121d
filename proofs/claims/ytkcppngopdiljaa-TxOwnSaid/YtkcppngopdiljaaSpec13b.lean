/- Layer 13 (store): a batch laid in, key by key: plain functions and facts. -/
import Derived.Test.YtkcppngopdiljaaStore6
set_option linter.unusedVariables false
set_option linter.unusedSimpArgs false
namespace Go.Proofs.Ytkcppngopdiljaa

/-- A key's chain behind some writes of the batch n, of which at most one is the key's. -/
def upd (n : Int) (l : List Wr) (k : ByteArray) (c : Chn) : Chn :=
  match l.find? (fun x => decide (x.key = k)) with
  | some x => c.put n x.row x.gone
  | none => c
theorem upd_nil (n : Int) (k : ByteArray) (c : Chn) : upd n [] k c = c := rfl
theorem find_none {l : List Wr} {k : ByteArray} (h : k ∉ l.map Wr.key) : l.find? (fun x => decide (x.key = k)) = none := by
  rw [List.find?_eq_none]
  intro x hx hk
  exact h (List.mem_map.2 ⟨x, hx, by simpa using hk⟩)
theorem upd_none {n : Int} {l : List Wr} {k : ByteArray} {c : Chn} (h : k ∉ l.map Wr.key) : upd n l k c = c := by unfold upd; rw [find_none h]
theorem upd_snoc_ne {n : Int} {l : List Wr} {k : ByteArray} {c : Chn} {x : Wr} (h : x.key ≠ k) : upd n (l ++ [x]) k c = upd n l k c := by
  unfold upd
  rw [List.find?_append]
  cases l.find? (fun x => decide (x.key = k)) with
  | some y => rfl
  | none => simp [h]
theorem upd_snoc_eq {n : Int} {l : List Wr} {c : Chn} {x : Wr} (h : x.key ∉ l.map Wr.key) : upd n (l ++ [x]) x.key c = c.put n x.row x.gone := by
  unfold upd
  rw [List.find?_append, find_none h]
  simp
theorem upd_cons_ne {n : Int} {l : List Wr} {k : ByteArray} {c : Chn} {x : Wr} (h : x.key ≠ k) : upd n (x :: l) k c = upd n l k c := by
  unfold upd; rw [List.find?_cons_of_neg (by simpa using h)]
theorem upd_cons_eq {n : Int} {l : List Wr} {c : Chn} {x : Wr} : upd n (x :: l) x.key c = c.put n x.row x.gone := by
  unfold upd; rw [List.find?_cons_of_pos (by simp)]

/-- Two lists of one's keys, each once, in which each key has the same value, are one. -/
theorem assoc_ext {β : Type} {l m : List (ByteArray × β)} (hk : l.map Prod.fst = m.map Prod.fst) (hn : (l.map Prod.fst).Nodup) (h : ∀ k, look k l = look k m) : l = m := by
  induction l generalizing m with
  | nil =>
    cases m with
    | nil => rfl
    | cons y m => simp at hk
  | cons x l ih =>
    cases m with
    | nil => simp at hk
    | cons y m =>
      simp only [List.map_cons, List.cons.injEq] at hk
      obtain ⟨h1, h2⟩ := List.nodup_cons.1 hn
      have hx := h x.1
      have hxy : x = y := by
        have e1 : look x.1 (x :: l) = some x.2 := by simp [look]
        have e2 : look x.1 (y :: m) = some y.2 := by simp [look, hk.1]
        rw [e1, e2] at hx
        injection hx with hx
        exact Prod.ext hk.1 hx
      subst hxy
      congr 1
      refine ih hk.2 h2 fun k => ?_
      by_cases e : x.1 = k
      · subst e
        rw [look_none_iff.2 h1, look_none_iff.2 (by rw [← hk.2]; exact h1)]
      · have := h k
        simp only [look, if_neg e] at this
        exact this
theorem look_map {l : List ByteArray} {β : Type} {f : ByteArray → β} {k : ByteArray} (h : k ∈ l) : look k (l.map fun x => (x, f x)) = some (f k) := by
  induction l with
  | nil => cases h
  | cons x l ih =>
    simp only [List.map_cons, look]
    by_cases e : x = k
    · subst e; simp
    · rw [if_neg e]
      rcases List.mem_cons.1 h with h | h
      · exact absurd h.symm e
      · exact ih h

theorem fold_rising {n : Int} {kc : List (ByteArray × Chn)} (h : Rising (kc.map Prod.fst)) (l : List Wr) : Rising ((l.foldl (Sto.put1 n) kc).map Prod.fst) := by
  induction l generalizing kc with
  | nil => exact h
  | cons x l ih => exact ih (slay_rising h)
theorem fold_keys {n : Int} {kc : List (ByteArray × Chn)} (l : List Wr) (k : ByteArray) : k ∈ (l.foldl (Sto.put1 n) kc).map Prod.fst ↔ k ∈ kc.map Prod.fst ∨ k ∈ l.map Wr.key := by
  induction l generalizing kc with
  | nil => simp
  | cons x l ih =>
    rw [List.foldl_cons, ih]
    have : (Sto.put1 n kc x).map Prod.fst = ins x.key (kc.map Prod.fst) := slay_keys ..
    rw [this, mem_ins, List.map_cons, List.mem_cons]
    constructor
    · rintro ((h | h) | h)
      · exact .inr (.inl h)
      · exact .inl h
      · exact .inr (.inr h)
    · rintro (h | h | h)
      · exact .inl (.inr h)
      · exact .inl (.inl h)
      · exact .inr h
/-- What a key has behind a batch of keys that rise. -/
theorem fold_at {n : Int} {kc : List (ByteArray × Chn)} (hr : Rising (kc.map Prod.fst)) {l : List Wr} (hn : (l.map Wr.key).Nodup) (k : ByteArray) (hk : k ∈ kc.map Prod.fst ∨ k ∈ l.map Wr.key) :
    look k (l.foldl (Sto.put1 n) kc) = some (upd n l k ((look k kc).getD Chn.empty)) := by
  induction l generalizing kc with
  | nil =>
    rw [List.foldl_nil, upd_nil]
    cases h : look k kc with
    | some c => rfl
    | none => rcases hk with hk | hk; exact absurd hk (look_none_iff.1 h); cases hk
  | cons x l ih =>
    rw [List.map_cons] at hn
    obtain ⟨h1, h2⟩ := List.nodup_cons.1 hn
    have hput : look k (Sto.put1 n kc x) = if x.key = k then some (((look x.key kc).getD Chn.empty).put n x.row x.gone) else look k kc := look_slay hr k
    by_cases e : x.key = k
    · subst e
      rw [List.foldl_cons, upd_cons_eq, fold_look (kc := Sto.put1 n kc x) (slay_rising hr) h1, hput, if_pos rfl]
    · rw [List.foldl_cons, upd_cons_ne e]
      have hk' : k ∈ (Sto.put1 n kc x).map Prod.fst ∨ k ∈ l.map Wr.key := by
        rcases hk with hk | hk
        · have : (Sto.put1 n kc x).map Prod.fst = ins x.key (kc.map Prod.fst) := slay_keys ..
          rw [this, mem_ins]; exact .inl (.inr hk)
        · rw [List.map_cons] at hk
          rcases List.mem_cons.1 hk with hk | hk
          · exact absurd hk.symm e
          · exact .inr hk
      rw [ih (kc := Sto.put1 n kc x) (slay_rising hr) h2 hk', hput, if_neg e]
/-- The document's way: all keys, rising; of each its chain. -/
theorem apply_keys {s : Sto} {n : Int} {l : List Wr} (hr : Rising (s.kc.map Prod.fst)) (hn : (l.map Wr.key).Nodup) :
    l.foldl (Sto.put1 n) s.kc = (rise (s.kc.map Prod.fst ++ l.map Wr.key)).map fun k => (k, upd n l k (s.of k)) := by
  have h1 := fold_rising (n := n) hr l
  have hk : (l.foldl (Sto.put1 n) s.kc).map Prod.fst = ((rise (s.kc.map Prod.fst ++ l.map Wr.key)).map fun k => (k, upd n l k (s.of k))).map Prod.fst := by
    rw [List.map_map]
    show _ = (rise _).map id
    rw [List.map_id]
    refine h1.ext (rising_rise _) fun k => ?_
    rw [fold_keys, mem_rise, List.mem_append]
  refine assoc_ext hk h1.nodup fun k => ?_
  by_cases h : k ∈ rise (s.kc.map Prod.fst ++ l.map Wr.key)
  · rw [look_map h]
    rw [mem_rise, List.mem_append] at h
    exact fold_at hr hn k h
  · have h2 : look k ((rise (s.kc.map Prod.fst ++ l.map Wr.key)).map fun k => (k, upd n l k (s.of k))) = none := by
      rw [look_none_iff, ← hk, fold_keys]
      rwa [mem_rise, List.mem_append] at h
    rw [h2, look_none_iff, hk]
    exact look_none_iff.1 h2
/-- Stores are fine, and stay so. -/
theorem upd_ok {n : Int} {l : List Wr} {k : ByteArray} {c : Chn} (h : c.Ok) (hn : c.last < n) : (upd n l k c).Ok := by
  unfold upd
  split
  · exact Chn.ok_put h hn _ _
  · exact h
theorem fold_oks {n : Int} {kc : List (ByteArray × Chn)} (hr : Rising (kc.map Prod.fst)) (hok : ∀ p ∈ kc, p.2.Ok) (hlt : ∀ p ∈ kc, p.2.last < n) (h0 : 0 < n) {l : List Wr} (hn : (l.map Wr.key).Nodup) : ∀ p ∈ l.foldl (Sto.put1 n) kc, p.2.Ok := by
  intro p hp
  have h1 := fold_rising (n := n) hr l
  have h2 := look_of_mem (k := p.1) (v := p.2) h1.nodup hp
  rw [fold_at hr hn p.1 ((fold_keys l p.1).1 (List.mem_map.2 ⟨p, hp, rfl⟩))] at h2
  injection h2 with h2
  rw [← h2]
  cases hl : look p.1 kc with
  | none => exact upd_ok ⟨List.Pairwise.nil, fun v hv => by cases hv⟩ h0
  | some c => exact upd_ok (hok _ (look_mem hl)) (hlt _ (look_mem hl))
end Go.Proofs.Ytkcppngopdiljaa
