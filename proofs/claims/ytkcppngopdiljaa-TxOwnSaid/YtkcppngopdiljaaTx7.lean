/- slices.IndexFunc and slices.DeleteFunc at items, of a function that only reads. -/
import Derived.Test.YtkcppngopdiljaaStore3o
set_option linter.unusedVariables false
set_option linter.unusedSimpArgs false
namespace Go.Proofs.Ytkcppngopdiljaa
open Go.RowKit

theorem itemO_at {w : World} {F : Nat → Prop} {A : Option Addr} {xs : List Item} (h : Rd tItemO w F A xs) {i : Nat} (hi : i < xs.length) :
    ∃ ad A' c', A = some ad ∧ w.cell? (ad.add (i * 2)) = some (.string xs[i].1) ∧ w.cell? ⟨(ad.add (i * 2)).block, (ad.add (i * 2)).off + 1, none⟩ = some (.slice A' xs[i].2.length c') ∧ Ow Ty.u8 5 w F (.slice A' xs[i].2.length c') xs[i].2 := by
  obtain ⟨ad, c, e, hk, h0, h1⟩ := h.get' hi (by decide)
  obtain ⟨A', c', rfl, h3⟩ := tItemO_open hk
  exact ⟨ad, A', c', e, h0 _ rfl, h1 1 _ (by omega) rfl, h3⟩

/-- What IndexFunc answers. -/
def IdxIs (p : ByteArray → Bool) (xs : List Item) (r : Int) : Prop :=
  (r = -1 ∧ ∀ x ∈ xs, p x.1 = false) ∨ ∃ k, ∃ h : k < xs.length, r = (k : Int) ∧ p xs[k].1 = true ∧ ∀ x ∈ xs.take k, p x.1 = false

set_option maxHeartbeats 1000000 in
set_option maxRecDepth 100000 in
theorem index_item (g : Nat) (caps : Array Value) (p : ByteArray → Bool) {w : World} {F : Nat → Prop} {A : Option Addr} {c : Nat} {xs : List Item} (h : Rd tItemO w F A xs) (hl : xs.length ≤ 1000000000)
    (he : ∀ args w, Sem.run Try.prog (callFunc g args) w = .ok (.enter g args) w)
    (hg : ∀ i (hi : i < xs.length) A' n c' w', Fr No w w' → Calls Try.prog g (#[.agg #[.string xs[i].1, .slice A' n c']] ++ caps) w' fun e w'' => e = .returned (.bool (p xs[i].1)) ∧ Fr No w' w'') :
    Calls Try.prog 65 #[.slice A xs.length c, .func (.func g) #[] caps] w fun e w' => ∃ r : Int, e = .returned (.int .i64 r) ∧ IdxIs p xs r ∧ Fr No w w' := by
  have HG := Lib.hid hg
  have H := Lib.hid h
  have hli : (xs.length : Int) ≤ 1000000000 := by omega
  clear hg h
  go_enter Try.func65, Try.ntmps65
  go_wp2_with fail
  go_loopw [8] (fun i wr => ∃ k : Nat, k ≤ xs.length ∧ i = .int .i64 k ∧ Hid ((∀ x ∈ xs.take k, p x.1 = false) ∧ Fr No w wr)) (fun i _ => xs.length - (intOf i).toNat)
  case atStart => exact ⟨0, Nat.zero_le _, rfl, by simp, Fr.refl _ _⟩
  case round =>
    obtain ⟨k, hk, rfl, I⟩ := hrel
    have hq0 : (0 : Int) ≤ (k : Int) := Int.natCast_nonneg _
    by_cases hlt : k < xs.length
    · have hq1 : (k : Int) < (xs.length : Int) := by omega
      obtain ⟨ad, A', c', rfl, x0, x1, _⟩ := itemO_at (H.out.fr0 I.out.2) hlt
      have hcall := HG.out k hlt A' xs[k].2.length c' wr I.out.2
      have hT : p xs[k].1 = true → IdxIs p xs k := fun h => .inr ⟨k, hlt, rfl, h, I.out.1⟩
      have hF : p xs[k].1 = false → ∀ x ∈ xs.take (k + 1), p x.1 = false := fun h x hx => by
        rw [List.take_succ_eq_append_getElem hlt, List.mem_append] at hx
        rcases hx with hx | hx
        · exact I.out.1 x hx
        · obtain rfl := List.mem_singleton.1 hx; exact h
      obtain ⟨x, hx⟩ : ∃ x, xs[k] = x := ⟨_, rfl⟩
      rw [hx] at x0 x1 hT hF
      simp only [hx] at hcall
      have HC := Lib.hid (And.intro hcall (And.intro hT hF))
      clear hcall hT hF hx
      cases hp : p x.1 with
      | true =>
        go_wp2_with (refine HC.out.1.mono ?_; rintro e w' ⟨rfl, hf'⟩; rw [hp]; have HF := Lib.hid hf'; clear hf')
        go_ret
        exact ⟨_, rfl, HC.out.2.1 hp, I.out.2.trans (HF.out.mono fun _ _ f => f.elim)⟩
      | false =>
        go_wp2_with (refine HC.out.1.mono ?_; rintro e w' ⟨rfl, hf'⟩; rw [hp]; have HF := Lib.hid hf'; clear hf')
        go_roundw
        case rel => exact ⟨k + 1, by omega, by go_num, HC.out.2.2 hp, I.out.2.trans (HF.out.mono fun _ _ f => f.elim)⟩
        case measure => simp [intOf]; omega
    · obtain rfl : k = xs.length := by omega
      have hI := I.out.1
      rw [List.take_length] at hI
      have HI := Lib.hid hI
      clear hI
      go_wp2_with fail
      go_ret
      exact ⟨_, rfl, .inl ⟨rfl, HI.out⟩, I.out.2⟩

/-- Under way: what is kept of the first j lies ahead, of two cells each; what is behind j lies as it did. -/
structure DelInv (p : ByteArray → Bool) (w : World) (F : Nat → Prop) (g cap : Nat) (cs : List Value) (xs : List Item) (i j : Nat) (wr : World) : Prop where
  len : i = ((xs.take j).filter fun x => !p x.1).length
  le : i < j
  blk : ∃ cur, wr.heap[g]? = some (.cells cur 65 (0, 0)) ∧ cur.size = cap * 2 ∧ Row tItemO wr (fun k => F k ∧ k ≠ g) ((xs.take j).filter fun x => !p x.1) (cur.toList.take (i * 2)) ∧ ∀ t, j * 2 ≤ t → t < xs.length * 2 → cur[t]? = cs[t]?
  fr : Fr (fun k => k = g) w wr

theorem store2_take {cur : Array Value} {i : Nat} {a b : Value} (h : i * 2 + 1 < cur.size) : ((cur.setIfInBounds (i * 2) a).setIfInBounds (i * 2 + 1) b).toList.take ((i + 1) * 2) = cur.toList.take (i * 2) ++ [a, b] := by
  apply List.ext_getElem?
  intro t
  rw [List.getElem?_take, Array.getElem?_toList, Array.getElem?_setIfInBounds, Array.getElem?_setIfInBounds]
  simp only [Array.size_setIfInBounds]
  by_cases h1 : t < i * 2
  · rw [if_pos (by omega), if_neg (by omega), if_neg (by omega), List.getElem?_append_left (by simp; omega), List.getElem?_take, if_pos h1, Array.getElem?_toList]
  · have hl : (cur.toList.take (i * 2)).length = i * 2 := by simp; omega
    rw [List.getElem?_append_right (by omega), hl]
    by_cases h2 : t = i * 2
    · subst h2
      rw [if_pos (by omega), if_neg (by omega), if_pos rfl, if_pos (by omega)]
      simp
    · by_cases h3 : t = i * 2 + 1
      · subst h3
        rw [if_pos (by omega), if_pos rfl, if_pos (by omega)]
        simp
      · rw [if_neg (by omega)]
        symm
        rw [List.getElem?_eq_none_iff]
        simp; omega

theorem DelInv.skip {p : ByteArray → Bool} {w : World} {F : Nat → Prop} {g cap : Nat} {cs : List Value} {xs : List Item} {i j : Nat} {wr wr' : World} (I : DelInv p w F g cap cs xs i j wr) (hj : j < xs.length) (hp : p xs[j].1 = true) (f : Fr No wr wr') : DelInv p w F g cap cs xs i (j + 1) wr' := by
  obtain ⟨h1, h2, ⟨cur, h3, h4, h5, h6⟩, h7⟩ := I
  have e : ((xs.take (j + 1)).filter fun x => !p x.1) = (xs.take j).filter fun x => !p x.1 := by
    rw [List.take_succ_eq_append_getElem hj, List.filter_append]; simp [hp]
  exact ⟨by rw [e]; exact h1, by omega, ⟨cur, f.blk h3 (fun f => f), h4, by rw [e]; exact h5.stab fun k _ hl => f.block k hl (fun f => f), fun t ht ht2 => h6 t (by omega) ht2⟩, h7.trans (f.mono fun _ _ f => f.elim)⟩

theorem DelInv.keep {p : ByteArray → Bool} {w : World} {F : Nat → Prop} {g cap : Nat} {cs : List Value} {xs : List Item} {i j : Nat} {wr wr' : World} {A' : Option Addr} {c' : Nat} (I : DelInv p w F g cap cs xs i j wr) (hj : j < xs.length) (hcap : xs.length ≤ cap) (hp : p xs[j].1 = false) (f : Fr No wr wr')
    (hb : Ow Ty.u8 5 w (fun k => F k ∧ k ≠ g) (.slice A' xs[j].2.length c') xs[j].2) :
    DelInv p w F g cap cs xs (i + 1) (j + 1) ((wr'.setCell ⟨g, i * 2, none⟩ (.string xs[j].1)).setCell ⟨g, i * 2 + 1, none⟩ (.slice A' xs[j].2.length c')) := by
  obtain ⟨h1, h2, ⟨cur, h3, h4, h5, h6⟩, h7⟩ := I
  have e : ((xs.take (j + 1)).filter fun x => !p x.1) = ((xs.take j).filter fun x => !p x.1) ++ [xs[j]] := by
    rw [List.take_succ_eq_append_getElem hj, List.filter_append]; simp [hp]
  have hg : Fr (fun k => k = g) wr' ((wr'.setCell ⟨g, i * 2, none⟩ (.string xs[j].1)).setCell ⟨g, i * 2 + 1, none⟩ (.slice A' xs[j].2.length c')) :=
    Fr.set (F := fun k => k = g) (Fr.set (F := fun k => k = g) (Fr.refl (fun k => k = g) wr') ⟨g, i * 2, none⟩ (.inl rfl) _) ⟨g, i * 2 + 1, none⟩ (.inl rfl) _
  have hw : Fr (fun k => k = g) w ((wr'.setCell ⟨g, i * 2, none⟩ (.string xs[j].1)).setCell ⟨g, i * 2 + 1, none⟩ (.slice A' xs[j].2.length c')) :=
    (h7.trans (f.mono fun _ _ f => f.elim)).trans (hg.mono fun _ _ e => .inl e)
  refine ⟨by rw [e]; simp; omega, by omega, ⟨_, blk_set (blk_set (f.blk h3 (fun f => f)) _ _) _ _, by simp; exact h4, ?_, fun t ht ht2 => ?_⟩, hw⟩
  · rw [store2_take (by omega), e]
    have hr : Row tItemO ((wr'.setCell ⟨g, i * 2, none⟩ (.string xs[j].1)).setCell ⟨g, i * 2 + 1, none⟩ (.slice A' xs[j].2.length c')) (fun k => F k ∧ k ≠ g) ((xs.take j).filter fun x => !p x.1) (cur.toList.take (i * 2)) :=
      h5.stab fun k hk hl => ((f.mono (G := fun k => k = g) fun _ _ f => f.elim).trans (hg.mono fun _ _ e => .inl e)).block k hl hk.2
    exact hr.append (Row.single (tItemO_mk (hb.fr hw fun k hk => hk.2)))
  · rw [Array.getElem?_setIfInBounds, Array.getElem?_setIfInBounds, if_neg (by omega), if_neg (by omega)]
    exact h6 t (by omega) ht2
end Go.Proofs.Ytkcppngopdiljaa
