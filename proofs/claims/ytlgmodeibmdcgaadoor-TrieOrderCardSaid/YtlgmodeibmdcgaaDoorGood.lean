/- Trees of items: what the program's methods do with the document's tree. -/
import Derived.Test.YtlgmodeibmdcgaaDoorKeysA
import Derived.Test.YtlgmodeibmdcgaaDoorTrie6
import Derived.Test.YtlgmodeibmdcgaaDoorRef9e
set_option linter.unusedVariables false
set_option linter.unusedSimpArgs false
namespace Go.Proofs.YtlgmodeibmdcgaaDoor
open Go.RowKit

section
variable {h : ByteArray → Nat → Bool}
theorem build_full {n : Nat} {m : List Itm} {d : Nat} (o : Once m) (s : Sep h n m d) : (build h n m d).Full := by
  induction n generalizing m d with
  | zero =>
    have hd : m.length ≤ 1 := o.short s rfl
    match m, hd with
    | [], _ => exact trivial
    | [_], _ => exact trivial
  | succ n ih =>
    rcases Nat.lt_or_ge m.length 2 with hlt | hge
    · match m, hlt with
      | [], _ => exact trivial
      | [_], _ => exact trivial
    · rw [build_two _ _ _ hge]
      refine ⟨ih (o.half d false) (s.half false), ih (o.half d true) (s.half true), ?_⟩
      rw [build_len (o.half d false) (s.half false), build_len (o.half d true) (s.half true), half_len]
      omega
theorem build_dp (n : Nat) (m : List Itm) (d : Nat) : (build h n m d).dp ≤ n := by
  induction n generalizing m d with
  | zero => match m with
    | [] => exact Nat.le_refl 0
    | [_] => exact Nat.le_refl 0
    | _ :: _ :: _ => exact Nat.le_refl 0
  | succ n ih => match m with
    | [] => exact Nat.zero_le _
    | [_] => exact Nat.zero_le _
    | x :: y :: m =>
      rw [build_two _ _ _ (by simp)]
      have a := ih (half h (x :: y :: m) d false) (d + 1)
      have b := ih (half h (x :: y :: m) d true) (d + 1)
      show max _ _ + 1 ≤ n + 1
      omega
theorem build_key {n : Nat} {m : List Itm} {d : Nat} {k : ByteArray} (hk : k ∈ (build h n m d).keys) : ∃ x ∈ m, x.1 = k := by
  induction n generalizing m d with
  | zero => match m with
    | [] => cases hk
    | [x] => exact ⟨x, by simp, by simpa [build, Tr.keys, eq_comm] using hk⟩
    | x :: _ :: _ => exact ⟨x, by simp, by simpa [build, Tr.keys, eq_comm] using hk⟩
  | succ n ih => match m with
    | [] => cases hk
    | [x] => exact ⟨x, by simp, by simpa [build, Tr.keys, eq_comm] using hk⟩
    | x :: y :: m =>
      rw [build_two _ _ _ (by simp)] at hk
      rcases List.mem_append.1 hk with e | e
      · obtain ⟨z, hz, e⟩ := ih e
        exact ⟨z, (mem_half.1 hz).1, e⟩
      · obtain ⟨z, hz, e⟩ := ih e
        exact ⟨z, (mem_half.1 hz).1, e⟩
theorem build_placed (n : Nat) (m : List Itm) (d : Nat) : (build h n m d).Placed h d := by
  induction n generalizing m d with
  | zero => match m with
    | [] => exact trivial
    | [_] => exact trivial
    | _ :: _ :: _ => exact trivial
  | succ n ih => match m with
    | [] => exact trivial
    | [_] => exact trivial
    | x :: y :: m =>
      rw [build_two _ _ _ (by simp)]
      refine ⟨fun k hk => ?_, fun k hk => ?_, ih _ _, ih _ _⟩
      · obtain ⟨z, hz, rfl⟩ := build_key hk
        exact (mem_half.1 hz).2
      · obtain ⟨z, hz, rfl⟩ := build_key hk
        exact (mem_half.1 hz).2
end

/-- Items as they occur. -/
structure GoodM (m : List Itm) : Prop where
  rise : RiseI m
  key : ∀ x ∈ m, IsKey x.1
  len : m.length ≤ 600
  row : ∀ x ∈ m, x.2.length ≤ 1000
theorem IsKey.size {k : ByteArray} (h : IsKey k) : k.size = 2 := by
  rcases h with ⟨i, _, rfl⟩ | ⟨i, _, rfl⟩ <;> rfl
theorem GoodM.small {m : List Itm} (g : GoodM m) : SmallI m := fun x hx => ⟨by rw [(g.key x hx).size]; decide, Nat.le_trans (g.row x hx) (by decide)⟩
theorem sep_keys {m : List Itm} (k : ∀ x ∈ m, IsKey x.1) : Sep hbit 256 m 0 := fun x hx y hy hne => by
  obtain ⟨i, h1, h2⟩ := keys_apart (k x hx) (k y hy) hne
  exact ⟨i, Nat.zero_le _, by omega, h2⟩
theorem GoodM.sep {m : List Itm} (g : GoodM m) : Sep hbit 256 m 0 := sep_keys g.key
theorem GoodM.nil : GoodM [] := ⟨List.Pairwise.nil, (fun x hx => by cases hx), by simp, (fun x hx => by cases hx)⟩
theorem putL_len (l : List Itm) (x : Itm) : (putL l x).length ≤ l.length + 1 := by
  induction l with
  | nil => simp [putL]
  | cons z l ih =>
    rw [putL_cons]
    split
    · simp; omega
    · split <;> simp
theorem GoodM.put {m : List Itm} (g : GoodM m) {x : Itm} (hk : IsKey x.1) (hr : x.2.length ≤ 1000) (hl : m.length < 600) : GoodM (putL m x) :=
  ⟨putL_rise g.rise x, (fun y hy => by rcases mem_putL hy with e | e; rw [e]; exact hk; exact g.key y e), Nat.le_trans (putL_len m x) hl, (fun y hy => by rcases mem_putL hy with e | e; rw [e]; exact hr; exact g.row y e)⟩
theorem GoodM.sub {m l : List Itm} (g : GoodM m) (s : l.Sublist m) : GoodM l :=
  ⟨List.Pairwise.sublist (s.map _) g.rise, fun x hx => g.key x (s.subset hx), Nat.le_trans s.length_le g.len, fun x hx => g.row x (s.subset hx)⟩
theorem GoodM.del {m : List Itm} (g : GoodM m) (k : ByteArray) : GoodM (delL m k) := g.sub List.filter_sublist

/-- The document's tree of items. -/
def treeOf (m : List Itm) : Tr := build hbit 256 m 0
theorem treeOf_full {m : List Itm} (g : GoodM m) : (treeOf m).Full := build_full g.rise.once g.sep
theorem treeOf_len {m : List Itm} (g : GoodM m) : (treeOf m).len = m.length := build_len g.rise.once g.sep
theorem treeOf_put {m : List Itm} (g : GoodM m) {x : Itm} (hk : IsKey x.1) : (treeOf m).put hbit sameK x 0 = treeOf (putL m x) :=
  put_build rfl g.rise (fun y hy => same_key (g.key y hy) hk) (sep_keys fun y hy => by
    rcases List.mem_cons.1 hy with e | e
    · rw [e]; exact hk
    · exact g.key y e)
theorem treeOf_del {m : List Itm} (g : GoodM m) (k : ByteArray) : (treeOf m).del hbit k 0 = treeOf (delL m k) := del_build g.rise g.sep
theorem treeOf_get {m : List Itm} (g : GoodM m) (k : ByteArray) : (treeOf m).get hbit k 0 = getL m k := get_build g.rise.once g.sep
theorem treeOf_dig (m : List Itm) : digT (treeOf m) = digI 256 m 0 := dig_build _ _ _ _ _ _ _
theorem treeOf_nil {m : List Itm} : (treeOf m).isNil = m.isEmpty := build_isNil _ _ _

theorem good_put {B : Nat} {m : List Itm} (g : GoodM m) {w : World} {F : Nat → Prop} {v : Value} {A : Option Addr} {c : Nat} {row : Bs} (key : ByteArray) (h : NodeAt B w v (treeOf m)) (hrow : Rd Ty.u8 w F A row) (hky : IsKey key) (hr : row.length ≤ 1000) (hk : KAt w) (hB : B ≤ w.heap.size) :
    Calls Tryd.prog 13 #[v, .string key, .slice A row.length c] w fun e w' => ∃ u, e = .returned u ∧ NodeAt B w' u (treeOf (putL m (key, row))) ∧ Fr No w w' := by
  have := Put_ok (c := c) key h hrow (by rw [hky.size]; decide) (by omega) hk hB (treeOf_full g) (by rw [treeOf_len g]; have := g.len; omega) (build_dp _ _ _) (build_placed _ _ _) (fun k hkk hne => by
    obtain ⟨z, hz, rfl⟩ := build_key hkk
    exact keys_apart (g.key z hz) hky (fun e => hne (by rw [e])))
  rwa [treeOf_put g (x := (key, row)) hky] at this
theorem good_del {B : Nat} {m : List Itm} (g : GoodM m) {w : World} {v : Value} (key : ByteArray) (h : NodeAt B w v (treeOf m)) (hky : key.size ≤ 1000) (hk : KAt w) (hB : B ≤ w.heap.size) :
    Calls Tryd.prog 14 #[v, .string key] w fun e w' => ∃ u, e = .returned u ∧ NodeAt B w' u (treeOf (delL m key)) ∧ Fr No w w' := by
  have := Del_ok key h hky hk hB (treeOf_full g) (by rw [treeOf_len g]; have := g.len; omega) (build_dp _ _ _)
  rwa [treeOf_del g] at this
theorem good_get {B : Nat} {m : List Itm} (g : GoodM m) {w : World} {v : Value} (key : ByteArray) (h : NodeAt B w v (treeOf m)) (hky : key.size ≤ 1000) (hk : KAt w) :
    Calls Tryd.prog 25 #[v, .string key] w (GotPost w (getL m key)) := by
  have hget : ∀ m : List Itm, (∀ x ∈ m, x.2.length ≤ 1000) → ∀ r, getL m key = some r → r.length ≤ 100000 := by
    intro m
    induction m with
    | nil => intro _ r hr; cases hr
    | cons y m ih =>
      intro hm r hr
      have hr' : (if y.1 = key then some y.2 else getL m key) = some r := hr
      split at hr'
      · have := hm y (by simp)
        injection hr' with e
        rw [← e]; omega
      · exact ih (fun x hx => hm x (by simp [hx])) r hr'
  have := get_ok key h hky hk (build_dp _ _ _) (fun r hr => hget m g.row r (by rw [← treeOf_get g]; exact hr))
  rwa [treeOf_get g] at this
theorem good_dig {B : Nat} {m : List Itm} {w : World} {v : Value} (h : NodeAt B w v (treeOf m)) (hk : KAt w) : Calls Tryd.prog 15 #[v] w fun e w' => e = .returned (.string (digI 256 m 0)) ∧ Fr No w w' := by
  have := dig_ok h hk
  rwa [treeOf_dig] at this
theorem good_len {B : Nat} {m : List Itm} (g : GoodM m) {w : World} {v : Value} (h : NodeAt B w v (treeOf m)) : Calls Tryd.prog 27 #[v] w fun e w' => e = .returned (.int .i64 (m.length : Int)) ∧ w' = w := by
  have := len_ok h
  rwa [treeOf_len g] at this
end Go.Proofs.YtlgmodeibmdcgaaDoor
