/- Texts of this claim, one behind the other: Tree. -/
import Derived.Test.YtlmhphejgahfbaaGreatDoorMrowledgerdeletes3
/- A tree of keys by their bits: plain functions and facts: the tree is one, in whichever order it was made. -/
set_option linter.unusedVariables false
set_option linter.unusedSimpArgs false
namespace Go.Proofs.YtlmhphejgahfbaaGreatDoor

abbrev Itm := ByteArray × List UInt8
/-- A leaf, or two halves. -/
inductive Tr where
  | nil : Tr
  | leaf (k : ByteArray) (r : List UInt8) : Tr
  | node (l r : Tr) : Tr

namespace Tr
def len : Tr → Nat
  | nil => 0
  | leaf _ _ => 1
  | node l r => len l + len r
def isNil : Tr → Bool
  | nil => true
  | _ => false
def single : Tr → Bool
  | leaf _ _ => true
  | _ => false
def keys : Tr → List ByteArray
  | nil => []
  | leaf k _ => [k]
  | node l r => keys l ++ keys r
/-- Two halves; one key alone is a leaf. -/
def join (l r : Tr) : Tr := if l.isNil && r.single then r else if r.isNil && l.single then l else if l.len + r.len = 0 then nil else node l r
end Tr

section
variable (h : ByteArray → Nat → Bool)
/-- Two leaves, apart from a depth on; n: how many bits there are still. -/
def apart : Nat → Itm → Itm → Nat → Tr
  | 0, a, b, d => if h a.1 d then Tr.join (.leaf b.1 b.2) (.leaf a.1 a.2) else Tr.join (.leaf a.1 a.2) (.leaf b.1 b.2)
  | n + 1, a, b, d => if h a.1 d = h b.1 d then (if h a.1 d then Tr.join .nil (apart n a b (d + 1)) else Tr.join (apart n a b (d + 1)) .nil)
    else if h a.1 d then Tr.join (.leaf b.1 b.2) (.leaf a.1 a.2) else Tr.join (.leaf a.1 a.2) (.leaf b.1 b.2)
/-- Are two keys' paths one? -/
def alike (a b : ByteArray) (same : ByteArray → ByteArray → Bool) : Bool := same a b
def Tr.put (same : ByteArray → ByteArray → Bool) : Tr → Itm → Nat → Tr
  | nil, x, _ => leaf x.1 x.2
  | leaf k r, x, d => if same k x.1 then leaf x.1 x.2 else apart h (255 - d) (k, r) x d
  | node l r, x, d => if h x.1 d then join l (put same r x (d + 1)) else join (put same l x (d + 1)) r
def Tr.del : Tr → ByteArray → Nat → Tr
  | nil, _, _ => nil
  | leaf k r, x, _ => if k = x then nil else leaf k r
  | node l r, x, d => if h x d then join l (del r x (d + 1)) else join (del l x (d + 1)) r
def Tr.get : Tr → ByteArray → Nat → Option (List UInt8)
  | nil, _, _ => none
  | leaf k r, x, _ => if k = x then some r else none
  | node l r, x, d => if h x d then get r x (d + 1) else get l x (d + 1)

/-- Those whose key's sum has a bit. -/
def half (m : List Itm) (d : Nat) (b : Bool) : List Itm := m.filter fun x => h x.1 d == b
/-- The document's tree; n: how many bits there are still. -/
def build : Nat → List Itm → Nat → Tr
  | _, [], _ => .nil
  | _, [x], _ => .leaf x.1 x.2
  | 0, x :: _, _ => .leaf x.1 x.2
  | n + 1, m, d => .node (build n (half h m d false) (d + 1)) (build n (half h m d true) (d + 1))
/-- Any two keys part, at a depth or below. -/
def Sep (n : Nat) (m : List Itm) (d : Nat) : Prop := ∀ x ∈ m, ∀ y ∈ m, x.1 ≠ y.1 → ∃ i, d ≤ i ∧ i < d + n ∧ h x.1 i ≠ h y.1 i
end

section
variable {h : ByteArray → Nat → Bool}
theorem half_nil (d : Nat) (b : Bool) : half h [] d b = [] := rfl
theorem half_cons (x : Itm) (m : List Itm) (d : Nat) (b : Bool) : half h (x :: m) d b = if h x.1 d = b then x :: half h m d b else half h m d b := by
  unfold half
  rw [List.filter_cons]
  by_cases e : h x.1 d = b <;> simp [e]
theorem mem_half {x : Itm} {m : List Itm} {d : Nat} {b : Bool} : x ∈ half h m d b ↔ x ∈ m ∧ h x.1 d = b := by
  unfold half; rw [List.mem_filter]; simp
theorem half_len (m : List Itm) (d : Nat) : (half h m d false).length + (half h m d true).length = m.length := by
  induction m with
  | nil => rfl
  | cons x m ih =>
    rw [half_cons, half_cons]
    cases h x.1 d <;> simp <;> omega
theorem Sep.half {n : Nat} {m : List Itm} {d : Nat} (s : Sep h (n + 1) m d) (b : Bool) : Sep h n (half h m d b) (d + 1) := by
  intro x hx y hy hne
  obtain ⟨hx1, hx2⟩ := mem_half.1 hx
  obtain ⟨hy1, hy2⟩ := mem_half.1 hy
  obtain ⟨i, h1, h2, h3⟩ := s x hx1 y hy1 hne
  refine ⟨i, ?_, by omega, h3⟩
  rcases Nat.lt_or_ge d i with hlt | hge
  · exact hlt
  · obtain rfl : i = d := by omega
    exact absurd (hx2.trans hy2.symm) h3
theorem Sep.sub {n : Nat} {m l : List Itm} {d : Nat} (s : Sep h n m d) (k : ∀ x ∈ l, ∃ y ∈ m, x.1 = y.1) : Sep h n l d := by
  intro x hx y hy hne
  obtain ⟨x', hx', ex⟩ := k x hx
  obtain ⟨y', hy', ey⟩ := k y hy
  rw [ex, ey] at hne ⊢
  exact s x' hx' y' hy' hne
/-- Each key once. -/
def Once (m : List Itm) : Prop := (m.map (·.1)).Nodup
theorem Once.half {m : List Itm} (o : Once m) (d : Nat) (b : Bool) : Once (half h m d b) :=
  List.Sublist.nodup (List.Sublist.map _ List.filter_sublist) o
theorem Once.short {n : Nat} {m : List Itm} {d : Nat} (o : Once m) (s : Sep h n m d) (hn : n = 0) : m.length ≤ 1 := by
  match m, o, s with
  | [], _, _ => simp
  | [_], _, _ => simp
  | x :: y :: m, o, s =>
    exfalso
    have hne : x.1 ≠ y.1 := by
      have := (List.nodup_cons.1 o).1
      intro e; apply this; show x.1 ∈ _; rw [e]; simp
    obtain ⟨i, h1, h2, _⟩ := s x (by simp) y (by simp) hne
    omega

theorem build_nil (n d : Nat) : build h n [] d = .nil := by cases n <;> rfl
theorem build_one (n d : Nat) (x : Itm) : build h n [x] d = .leaf x.1 x.2 := by cases n <;> rfl
theorem build_two (n d : Nat) (m : List Itm) (hm : 2 ≤ m.length) : build h (n + 1) m d = .node (build h n (half h m d false) (d + 1)) (build h n (half h m d true) (d + 1)) := by
  match m, hm with
  | x :: y :: m, _ => rfl
theorem build_len {n : Nat} {m : List Itm} {d : Nat} (o : Once m) (s : Sep h n m d) : (build h n m d).len = m.length := by
  induction n generalizing m d with
  | zero =>
    have := o.short s rfl
    match m, this with
    | [], _ => rfl
    | [_], _ => rfl
  | succ n ih =>
    rcases Nat.lt_or_ge m.length 2 with hlt | hge
    · match m, hlt with
      | [], _ => rfl
      | [_], _ => rfl
    · rw [build_two _ _ _ hge]
      show _ + _ = _
      rw [ih (o.half d false) (s.half false), ih (o.half d true) (s.half true), half_len]
theorem build_isNil (n : Nat) (m : List Itm) (d : Nat) : (build h n m d).isNil = m.isEmpty := by
  match n, m with
  | 0, [] => rfl
  | _ + 1, [] => rfl
  | 0, [_] => rfl
  | _ + 1, [_] => rfl
  | 0, _ :: _ :: _ => rfl
  | _ + 1, _ :: _ :: _ => rfl
theorem build_single {n : Nat} {m : List Itm} {d : Nat} (o : Once m) (s : Sep h n m d) : (build h n m d).single = decide (m.length = 1) := by
  match n, m, o, s with
  | 0, [], _, _ => rfl
  | _ + 1, [], _, _ => rfl
  | 0, [_], _, _ => rfl
  | _ + 1, [_], _, _ => rfl
  | 0, x :: y :: m, o, s => exact absurd (o.short s rfl) (by simp)
  | _ + 1, _ :: _ :: _, _, _ => simp [build, Tr.single]
theorem join_build {n : Nat} {m : List Itm} {d : Nat} (o : Once m) (s : Sep h (n + 1) m d) :
    Tr.join (build h n (half h m d false) (d + 1)) (build h n (half h m d true) (d + 1)) = build h (n + 1) m d := by
  have hl := half_len (h := h) m d
  unfold Tr.join
  rw [build_isNil, build_isNil, build_single (o.half d false) (s.half false), build_single (o.half d true) (s.half true), build_len (o.half d false) (s.half false), build_len (o.half d true) (s.half true)]
  match m, o, s, hl with
  | [], _, _, _ => simp [half_nil, build_nil]
  | [x], _, _, _ =>
    simp only [half_cons, half_nil, build_one]
    cases h x.1 d <;> simp [build_one, build_nil]
  | x :: y :: m, _, _, hl =>
    rw [build_two _ _ _ (by simp)]
    simp only [List.length_cons] at hl
    rw [if_neg, if_neg, if_neg (by omega)]
    · simp only [Bool.and_eq_true, List.isEmpty_iff, decide_eq_true_eq, not_and]
      intro e; rw [e] at hl; simp at hl; omega
    · simp only [Bool.and_eq_true, List.isEmpty_iff, decide_eq_true_eq, not_and]
      intro e; rw [e] at hl; simp at hl; omega

/-- The items in which a key has a row. -/
def putL (m : List Itm) (x : Itm) : List Itm := match m with
  | [] => [x]
  | y :: m => if kl y.1 x.1 then y :: putL m x else if y.1 = x.1 then x :: m else x :: y :: m
theorem putL_cons (y : Itm) (m : List Itm) (x : Itm) : putL (y :: m) x = if kl y.1 x.1 then y :: putL m x else if y.1 = x.1 then x :: m else x :: y :: m := by rw [putL]
def delL (m : List Itm) (k : ByteArray) : List Itm := m.filter fun y => !decide (y.1 = k)
def getL (m : List Itm) (k : ByteArray) : Option (List UInt8) := match m with
  | [] => none
  | y :: m => if y.1 = k then some y.2 else getL m k
abbrev RiseI (m : List Itm) : Prop := Rising (m.map (·.1))
theorem RiseI.once {m : List Itm} (r : RiseI m) : Once m := r.nodup
theorem RiseI.half {m : List Itm} (r : RiseI m) (d : Nat) (b : Bool) : RiseI (half h m d b) :=
  List.Pairwise.sublist (List.Sublist.map _ List.filter_sublist) r
theorem RiseI.tail {x : Itm} {m : List Itm} (r : RiseI (x :: m)) : RiseI m := (List.pairwise_cons.1 r).2
theorem RiseI.head {x : Itm} {m : List Itm} (r : RiseI (x :: m)) {y : Itm} (hy : y ∈ m) : kl x.1 y.1 = true := (List.pairwise_cons.1 r).1 _ (List.mem_map_of_mem hy)
theorem mem_putL {m : List Itm} {x y : Itm} (hy : y ∈ putL m x) : y = x ∨ y ∈ m := by
  induction m with
  | nil => left; simpa [putL] using hy
  | cons z m ih =>
    unfold putL at hy
    split at hy
    · rcases List.mem_cons.1 hy with e | e
      · exact .inr (by rw [e]; simp)
      · rcases ih e with e | e
        · exact .inl e
        · exact .inr (by simp [e])
    · split at hy
      · rcases List.mem_cons.1 hy with e | e
        · exact .inl e
        · exact .inr (by simp [e])
      · rcases List.mem_cons.1 hy with e | e
        · exact .inl e
        · exact .inr e
theorem putL_rise {m : List Itm} (r : RiseI m) (x : Itm) : RiseI (putL m x) := by
  induction m with
  | nil => exact List.pairwise_singleton _ _
  | cons z m ih =>
    unfold putL
    split
    · rename_i hk
      refine List.pairwise_cons.2 ⟨fun k hkm => ?_, ih r.tail⟩
      obtain ⟨y, hy, rfl⟩ := List.mem_map.1 hkm
      rcases mem_putL hy with e | e
      · rw [e]; exact hk
      · exact r.head e
    · rename_i hk
      split
      · rename_i e
        refine List.pairwise_cons.2 ⟨fun k hkm => ?_, r.tail⟩
        obtain ⟨y, hy, rfl⟩ := List.mem_map.1 hkm
        show kl x.1 y.1 = true
        rw [← e]
        exact r.head hy
      · rename_i hne
        have hxz : kl x.1 z.1 = true := by
          cases hx : kl x.1 z.1 with
          | true => rfl
          | false => exact absurd (kl_tri (by simpa using hk) hx) hne
        refine List.pairwise_cons.2 ⟨fun k hkm => ?_, r⟩
        obtain ⟨y, hy, rfl⟩ := List.mem_map.1 hkm
        rcases List.mem_cons.1 hy with e | e
        · rw [e]; exact hxz
        · exact kl_trans hxz (r.head e)
theorem delL_rise {m : List Itm} (r : RiseI m) (k : ByteArray) : RiseI (delL m k) := List.Pairwise.sublist (List.Sublist.map _ List.filter_sublist) r
theorem half_other {m : List Itm} {x : Itm} {d : Nat} {b : Bool} (hb : h x.1 d ≠ b) : half h (putL m x) d b = half h m d b := by
  induction m with
  | nil => simp only [putL]; rw [half_cons, if_neg hb]
  | cons z m ih =>
    unfold putL
    split
    · rw [half_cons, half_cons, ih]
    · split
      · rename_i e
        rw [half_cons, half_cons, if_neg hb, if_neg (by rw [e]; exact hb)]
      · rw [half_cons, if_neg hb]
theorem putL_last {m : List Itm} {x : Itm} (hm : ∀ y ∈ m, kl x.1 y.1 = true) : putL m x = x :: m := by
  cases m with
  | nil => rfl
  | cons z m =>
    have hz := hm z (by simp)
    unfold putL
    rw [if_neg (by rw [kl_asymm hz]; decide), if_neg (fun e => kl_ne hz e.symm)]
theorem half_put {m : List Itm} (r : RiseI m) (x : Itm) (d : Nat) : half h (putL m x) d (h x.1 d) = putL (half h m d (h x.1 d)) x := by
  induction m with
  | nil => simp only [putL, half_nil]; rw [half_cons, if_pos rfl, half_nil]
  | cons z m ih =>
    rw [half_cons, putL_cons]
    by_cases hk : kl z.1 x.1 = true
    · rw [if_pos hk, half_cons, ih r.tail]
      split
      · rw [putL_cons, if_pos hk]
      · rfl
    · rw [if_neg hk]
      by_cases e : z.1 = x.1
      · rw [if_pos e, half_cons, if_pos rfl, if_pos (by rw [e]), putL_cons, if_neg hk, if_pos e]
      · rw [if_neg e, half_cons, if_pos rfl, half_cons]
        have hxz : kl x.1 z.1 = true := by
          cases hx : kl x.1 z.1 with
          | true => rfl
          | false => exact absurd (kl_tri (by simpa using hk) hx) e
        by_cases hz : h z.1 d = h x.1 d
        · rw [if_pos hz, putL_cons, if_neg hk, if_neg e]
        · rw [if_neg hz, putL_last]
          intro y hy
          exact kl_trans hxz (r.head (mem_half.1 hy).1)
theorem half_del {m : List Itm} (k : ByteArray) (d : Nat) (b : Bool) : half h (delL m k) d b = delL (half h m d b) k := by
  unfold half delL
  rw [List.filter_filter, List.filter_filter]
  congr 1; funext y; exact Bool.and_comm _ _
theorem delL_id {m : List Itm} {k : ByteArray} (hm : ∀ y ∈ m, y.1 ≠ k) : delL m k = m := by
  unfold delL
  rw [List.filter_eq_self]
  intro y hy; simp [hm y hy]
theorem half_get {m : List Itm} (k : ByteArray) (d : Nat) : getL (half h m d (h k d)) k = getL m k := by
  induction m with
  | nil => rfl
  | cons z m ih =>
    rw [half_cons]
    by_cases e : z.1 = k
    · rw [if_pos (by rw [e])]; simp [getL, e]
    · by_cases hz : h z.1 d = h k d
      · rw [if_pos hz]; simp only [getL, if_neg e]; exact ih
      · rw [if_neg hz]; simp only [getL, if_neg e]; exact ih

theorem apart_build {n : Nat} {a b : Itm} {d : Nat} (hne : a.1 ≠ b.1) (s : Sep h (n + 1) [a, b] d) : apart h n a b d = build h (n + 1) [a, b] d ∧ apart h n a b d = build h (n + 1) [b, a] d := by
  have s' : Sep h (n + 1) [b, a] d := s.sub fun x hx => ⟨x, by simp at hx ⊢; exact hx.symm, rfl⟩
  have oa : Once [a, b] := by simp [Once, hne]
  have ob : Once [b, a] := by simp [Once]; exact fun e => hne e.symm
  rw [← join_build oa s, ← join_build ob s']
  induction n generalizing d with
  | zero =>
    obtain ⟨i, h1, h2, h3⟩ := s a (by simp) b (by simp) hne
    obtain rfl : i = d := by omega
    simp only [apart, half_cons, half_nil]
    cases ha : h a.1 i <;> cases hb : h b.1 i <;> rw [ha, hb] at h3 <;> simp [build_one] at h3 ⊢
  | succ n ih =>
    have sh : Sep h (n + 1) [a, b] (d + 1) ∨ h a.1 d ≠ h b.1 d := by
      by_cases e : h a.1 d = h b.1 d
      · left
        have := s.half (h a.1 d)
        rw [half_cons, half_cons, half_nil, if_pos rfl, if_pos e.symm] at this
        exact this
      · exact .inr e
    by_cases e : h a.1 d = h b.1 d
    · have sh : Sep h (n + 1) [a, b] (d + 1) := by
        rcases sh with h | h
        · exact h
        · exact absurd e h
      have sh' : Sep h (n + 1) [b, a] (d + 1) := sh.sub fun x hx => ⟨x, by simp at hx ⊢; exact hx.symm, rfl⟩
      obtain ⟨i1, i2⟩ := ih sh sh'
      rw [join_build oa sh] at i1
      rw [join_build ob sh'] at i2
      simp only [apart, if_pos e, half_cons, half_nil]
      rw [← e]
      cases ha : h a.1 d
      · simp only [ha, Bool.false_eq_true, ↓reduceIte, build_nil]
        constructor
        · rw [i1]
        · rw [i2]
      · simp only [ha, Bool.true_eq_false, ↓reduceIte, build_nil]
        constructor
        · rw [i1]
        · rw [i2]
    · simp only [apart, if_neg e, half_cons, half_nil]
      cases ha : h a.1 d <;> cases hb : h b.1 d <;> rw [ha, hb] at e <;> simp [build_one] at e ⊢

/-- Laid in: the tree of the items in which the key has the row. -/
theorem put_build {same : ByteArray → ByteArray → Bool} {n : Nat} {m : List Itm} {x : Itm} {d : Nat} (hnd : n + d = 256) (r : RiseI m) (hs : ∀ y ∈ m, same y.1 x.1 = decide (y.1 = x.1)) (s : Sep h n (x :: m) d) :
    (build h n m d).put h same x d = build h n (putL m x) d := by
  induction n generalizing m d with
  | zero =>
    have hd : m.length ≤ 1 := r.once.short (s.sub fun y hy => ⟨y, by simp [hy], rfl⟩) rfl
    match m, hd, hs with
    | [], _, _ => rfl
    | [z], _, hs =>
      have ez : z.1 = x.1 := by
        by_cases e : z.1 = x.1
        · exact e
        · obtain ⟨i, h1, h2, _⟩ := s z (by simp) x (by simp) e; omega
      rw [build_one, putL_cons, if_neg (by rw [ez, kl_irrefl]; decide), if_pos ez, build_one]
      unfold Tr.put
      rw [hs z (by simp), decide_eq_true ez]
      rfl
  | succ n ih =>
    rcases Nat.lt_or_ge m.length 2 with hlt | hge
    · match m, hlt, hs, s, r with
      | [], _, _, _, _ => rw [build_nil]; rfl
      | [z], _, hs, s, r =>
        rw [build_one]
        unfold Tr.put
        rw [hs z (by simp)]
        by_cases ez : z.1 = x.1
        · have hk : ¬ kl z.1 x.1 = true := by rw [ez, kl_irrefl]; decide
          rw [decide_eq_true ez, putL_cons, if_neg hk, if_pos ez, build_one]
          rfl
        · rw [decide_eq_false ez, if_neg (by decide)]
          have hap := apart_build (h := h) (n := n) (a := z) (b := x) (d := d) ez (s.sub fun y hy => ⟨y, by simp at hy ⊢; exact hy.symm, rfl⟩)
          rw [show 255 - d = n by omega, putL_cons]
          split
          · exact hap.1
          · first | exact hap.2 | (rw [if_neg ez]; exact hap.2)
    · have hs' : ∀ b, ∀ y ∈ half h m d b, same y.1 x.1 = decide (y.1 = x.1) := fun b y hy => hs y (mem_half.1 hy).1
      have ss : Sep h n (x :: half h m d (h x.1 d)) (d + 1) := by
        have := s.half (h x.1 d)
        rwa [half_cons, if_pos rfl] at this
      have o' := (putL_rise r x).once
      have s' : Sep h (n + 1) (putL m x) d := s.sub fun y hy => by
        rcases mem_putL hy with e | e
        · exact ⟨x, by simp, by rw [e]⟩
        · exact ⟨y, by simp [e], rfl⟩
      rw [build_two _ _ _ hge, ← join_build o' s']
      show (if h x.1 d then _ else _) = _
      have hput := half_put (h := h) r x d
      cases hx : h x.1 d
      · rw [hx] at hput ss
        rw [if_neg (by decide), hput, half_other (by rw [hx]; decide), ih (by omega) (r.half d false) (hs' false) ss]
      · rw [hx] at hput ss
        rw [if_pos rfl, hput, half_other (by rw [hx]; decide), ih (by omega) (r.half d true) (hs' true) ss]
/-- Taken away. -/
theorem del_build {n : Nat} {m : List Itm} {k : ByteArray} {d : Nat} (r : RiseI m) (s : Sep h n m d) : (build h n m d).del h k d = build h n (delL m k) d := by
  have one : ∀ n (z : Itm), (build h n [z] d).del h k d = build h n (delL [z] k) d := by
    intro n z
    rw [build_one]
    unfold Tr.del delL
    by_cases e : z.1 = k <;> simp [e, build_nil, build_one]
  induction n generalizing m d with
  | zero =>
    have hd : m.length ≤ 1 := r.once.short s rfl
    match m, hd with
    | [], _ => rfl
    | [z], _ => exact one _ z
  | succ n ih =>
    rcases Nat.lt_or_ge m.length 2 with hlt | hge
    · match m, hlt with
      | [], _ => rw [build_nil]; show Tr.nil = _; unfold delL; rw [List.filter_nil, build_nil]
      | [z], _ => exact one _ z
    · have o' := (delL_rise r k).once
      have s' : Sep h (n + 1) (delL m k) d := s.sub fun y hy => ⟨y, (List.mem_filter.1 hy).1, rfl⟩
      rw [build_two _ _ _ hge, ← join_build o' s']
      show (if h k d then _ else _) = _
      have one' : ∀ n (z : Itm), (build h n [z] (d + 1)).del h k (d + 1) = build h n (delL [z] k) (d + 1) := by
        intro n z
        rw [build_one]
        unfold Tr.del delL
        by_cases e : z.1 = k <;> simp [e, build_nil, build_one]
      have other : ∀ b, h k d ≠ b → half h (delL m k) d b = half h m d b := by
        intro b hb
        rw [half_del, delL_id]
        intro y hy e
        have := (mem_half.1 hy).2
        rw [e] at this
        exact hb this
      cases hx : h k d
      · rw [if_neg (by decide), other true (by rw [hx]; decide), half_del, ih (r.half d false) (s.half false) one']
      · rw [if_pos rfl, other false (by rw [hx]; decide), half_del, ih (r.half d true) (s.half true) one']
theorem get_build {n : Nat} {m : List Itm} {k : ByteArray} {d : Nat} (o : Once m) (s : Sep h n m d) : (build h n m d).get h k d = getL m k := by
  induction n generalizing m d with
  | zero =>
    have hd : m.length ≤ 1 := o.short s rfl
    match m, hd with
    | [], _ => rfl
    | [z], _ => rfl
  | succ n ih =>
    rcases Nat.lt_or_ge m.length 2 with hlt | hge
    · match m, hlt with
      | [], _ => rfl
      | [z], _ => rfl
    · rw [build_two _ _ _ hge]
      show (if h k d then _ else _) = _
      cases hx : h k d
      · rw [if_neg (by decide), ih (o.half d false) (s.half false), ← hx, half_get]
      · rw [if_pos rfl, ih (o.half d true) (s.half true), ← hx, half_get]
theorem half_perm (m : List Itm) (d : Nat) : (half h m d false ++ half h m d true).Perm m := by
  induction m with
  | nil => exact List.Perm.refl _
  | cons x m ih =>
    rw [half_cons, half_cons]
    cases h x.1 d
    · simp only [↓reduceIte, Bool.false_eq_true]; exact ih.cons x
    · simp only [↓reduceIte, Bool.true_eq_false]
      exact List.Perm.trans List.perm_middle (ih.cons x)
theorem build_keys {n : Nat} {m : List Itm} {d : Nat} (o : Once m) (s : Sep h n m d) : (build h n m d).keys.Perm (m.map (·.1)) := by
  induction n generalizing m d with
  | zero =>
    have hd : m.length ≤ 1 := o.short s rfl
    match m, hd with
    | [], _ => exact List.Perm.refl _
    | [z], _ => exact List.Perm.refl _
  | succ n ih =>
    rcases Nat.lt_or_ge m.length 2 with hlt | hge
    · match m, hlt with
      | [], _ => exact List.Perm.refl _
      | [z], _ => exact List.Perm.refl _
    · rw [build_two _ _ _ hge]
      refine ((ih (o.half d false) (s.half false)).append (ih (o.half d true) (s.half true))).trans ?_
      rw [← List.map_append]
      exact (half_perm m d).map _
end

/-! ### Digests -/
section
variable {D : Type} (e : D) (lf : Itm → D) (nd : D → D → D)
def Tr.dig : Tr → D
  | .nil => e
  | .leaf k r => lf (k, r)
  | .node l r => nd (dig l) (dig r)
variable (h : ByteArray → Nat → Bool)
/-- The document's digest; n: how many bits there are still. -/
def digL : Nat → List Itm → Nat → D
  | _, [], _ => e
  | _, [x], _ => lf x
  | 0, x :: _, _ => lf x
  | n + 1, m, d => nd (digL n (half h m d false) (d + 1)) (digL n (half h m d true) (d + 1))
theorem dig_build (n : Nat) (m : List Itm) (d : Nat) : (build h n m d).dig e lf nd = digL e lf nd h n m d := by
  induction n generalizing m d with
  | zero => match m with
    | [] => rfl
    | [_] => rfl
    | _ :: _ :: _ => rfl
  | succ n ih => match m with
    | [] => rfl
    | [_] => rfl
    | x :: y :: m =>
      rw [build_two _ _ _ (by simp)]
      show nd _ _ = nd _ _
      rw [ih, ih]
end
end Go.Proofs.YtlmhphejgahfbaaGreatDoor
