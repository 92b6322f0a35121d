/- Texts of this claim, one behind the other: Key, Put, OkL, SortW. -/
import Derived.Test.YtlmhphejgahfbaaGreatDoorMrowledgerdeletes22
import Derived.Test.YtlmhphejgahfbaaGreatDoorMrowledgerdeletes19
import Derived.Test.YtlmhphejgahfbaaGreatDoorMrowledgerdeletes21
import Derived.Test.YtlmhphejgahfbaaGreatDoorShelf2
import Derived.Shelf.SlSortCmp.NoneTotal
/- order.Key, table.Key, KeyOf; table.Pack; table.Check. -/
set_option linter.unusedVariables false
set_option linter.unusedSimpArgs false
namespace Go.Proofs.YtlmhphejgahfbaaGreatDoor
open Go.RowKit

theorem flat_le {α : Type} {f : α → Bs} {m : Nat} {l : List α} (h : ∀ x ∈ l, (f x).length ≤ m) : (l.flatMap f).length ≤ m * l.length := by
  induction l with
  | nil => simp
  | cons x l ih =>
    have h1 := h x (List.mem_cons_self ..)
    have h2 := ih fun y hy => h y (List.mem_cons_of_mem _ hy)
    rw [List.flatMap_cons, List.length_append, List.length_cons, Nat.mul_add]
    omega
theorem flat_take {α : Type} {f : α → Bs} {l : List α} {k : Nat} (hk : k < l.length) : (l.take k).flatMap f ++ f l[k] = (l.take (k + 1)).flatMap f := by
  rw [List.take_succ_eq_append_getElem hk, List.flatMap_append]; simp
set_option maxHeartbeats 1000000 in
set_option maxRecDepth 100000 in
theorem okey_ok {w : World} {R : Nat → Prop} {A : Option Addr} {c n : Nat} {l : List Val} (h : Rd tVal w R A l) (hn : n = l.length) (hl : l.length ≤ 8) (hb : ∀ v ∈ l, (oneB v).length ≤ 1000) (ho : ∀ v ∈ l, ∀ w1 : World, Calls Tryz.prog 177 #[vA v] w1 (OwnB w1 (oneB v))) :
    Calls Tryz.prog 124 #[.slice A n c] w (OwnB w (l.flatMap oneB)) := by
  subst hn
  have hl8 : (l.length : Int) ≤ 8 := by omega
  have H := Lib.hid (And.intro h (And.intro hb ho))
  clear h hb ho
  go_enter Tryz.func124, Tryz.ntmps124
  go_wp2_with fail
  go_loopw [3, 8] (fun v iv wr => ∃ (k : Nat) (A' : Option Addr) (c' : Nat), k ≤ l.length ∧ iv = .int .i64 (k : Int) ∧ v = .slice A' ((l.take k).flatMap oneB).length c' ∧ Hid (Ow Ty.u8 5 wr (fun i => w.heap.size ≤ i) (.slice A' ((l.take k).flatMap oneB).length c') ((l.take k).flatMap oneB) ∧ Fr No w wr)) (fun _ iv _ => l.length - (intOf iv).toNat)
  case atStart => exact ⟨0, none, 0, Nat.zero_le _, rfl, rfl, by simpa using Ow.nil, Fr.refl No w⟩
  case round =>
    obtain ⟨k, A', c', hk, rfl, rfl, I⟩ := hrel
    have hk0 : (0 : Int) ≤ (k : Int) := Int.natCast_nonneg _
    by_cases hlt : k < l.length
    · have hk1 : (k : Int) < (l.length : Int) := by omega
      obtain ⟨ad, rfl, x0, x1, x2⟩ := val_at (H.out.1.fr0 I.out.2) hlt
      have hone := H.out.2.2 l[k] (List.getElem_mem hlt)
      have hone1 := H.out.2.1 l[k] (List.getElem_mem hlt)
      have hsucc := flat_take (f := oneB) hlt
      have hpl : ((l.take k).flatMap oneB).length ≤ 1000 * (l.take k).length := flat_le fun x hx => H.out.2.1 x (List.mem_of_mem_take hx)
      rw [List.length_take] at hpl
      obtain ⟨v, hv⟩ : ∃ v, l[k] = v := ⟨_, rfl⟩
      rw [hv] at x0 x1 x2 hone hone1 hsucc
      clear hv
      obtain ⟨pre, hpre⟩ : ∃ pre, (l.take k).flatMap oneB = pre := ⟨_, rfl⟩
      rw [hpre] at I hsucc hpl ⊢
      have HO := Lib.hid (And.intro hone (And.intro hone1 (And.intro hsucc hpl)))
      clear hone hone1 hsucc hpl hpre
      go_wp2_with fail
      refine (HO.out.1 _).mono ?_
      rintro e w3 ⟨A2, c2, rfl, ho2, hf3⟩
      have hf : Fr No wr w3 := ((Fr.refl No wr).alloc _).next hf3 (fun _ _ f => f.elim)
      obtain ⟨cs, hR, hA⟩ := (ho2.rd.2.2).at
      have hpl := HO.out.2.2.2
      have hol := HO.out.2.1
      obtain ⟨A4, c4, w4, hrun, hO4, hg4, _⟩ := run_ow_append (P := Tryz.prog) (ty := 46) (ty' := 46) Ty.u8 (I.out.1.fr0 hf) (.int .u8 0) 1 Tryz.underlying46 info_u8 rfl (by decide) (by decide) c2 (ys := oneB v) (hR.imp fun _ _ h => h) hA (by omega)
      have hlen : pre.length + (oneB v).length = ((l.take (k + 1)).flatMap oneB).length := by rw [← HO.out.2.2.1, List.length_append]
      rw [hlen] at hrun hO4
      rw [HO.out.2.2.1] at hO4
      obtain ⟨nxt, hnx⟩ : ∃ nxt, (l.take (k + 1)).flatMap oneB = nxt := ⟨_, rfl⟩
      rw [hnx] at hrun hO4
      have HX := Lib.hid hnx
      clear hnx
      have hsz := Nat.le_trans I.out.2.size hf.size
      have HH := Lib.hid (And.intro (hO4.mono (G := fun i => w.heap.size ≤ i) fun i hi _ => by rcases hi with hi | hi <;> omega) ((I.out.2.next hf (fun _ _ f => f.elim)).grown hg4 fun k hk => .inr (I.out.1.own hk).1))
      clear hf3 ho2 hf hR hA hO4 hg4 hlen hsz hpl hol
      go_wp2_with (at_builtin; refine wpList_plain rfl fun K hK => wp_append_run _ _ _ _ rfl rfl rfl hrun (hK _ _ ?_))
      go_roundw
      case rel => exact ⟨k + 1, A4, c4, by omega, by go_num, by rw [HX.out], by rw [HX.out]; exact HH.out.1, HH.out.2⟩
      case measure => simp [intOf]; omega
    · obtain rfl : k = l.length := by omega
      rw [List.take_length] at I ⊢
      go_wp2_with fail
      go_ret
      exact ⟨A', c', rfl, I.out.1, I.out.2⟩

/-- A key of a table. -/
def keyS (t : Nat) (l : List Val) : ByteArray := ⟨(UInt8.ofNat t :: l.flatMap oneB).toArray⟩
set_option maxHeartbeats 1000000 in
set_option maxRecDepth 100000 in
theorem tkey_ok {w : World} {R : Nat → Prop} {A : Option Addr} {c n t : Nat} {l : List Val} (ht : t ≤ 3) (h : Rd tVal w R A l) (hn : n = l.length) (hl : l.length ≤ 8) (hb : ∀ v ∈ l, (oneB v).length ≤ 1000) (ho : ∀ v ∈ l, ∀ w1 : World, Calls Tryz.prog 177 #[vA v] w1 (OwnB w1 (oneB v))) :
    Calls Tryz.prog 67 #[.int .i64 (t : Int), .slice A n c] w fun e w' => e = .returned (.string (keyS t l)) ∧ Fr No w w' := by
  have ht0 : (0 : Int) ≤ (t : Int) := Int.natCast_nonneg _
  have ht3 : (t : Int) ≤ 3 := by omega
  have htm : IntKind.u8.wrap (t : Int) = (t : Int) := by show (t : Int) % 256 = _; omega
  obtain ⟨K0, hK0⟩ : ∃ K0, keyS t l = K0 := ⟨_, rfl⟩
  rw [hK0]
  have HK0 := Lib.hid (show (⟨([UInt8.ofNat t] ++ l.flatMap oneB).toArray⟩ : ByteArray) = K0 from hK0)
  clear hK0
  have hbl := flat_le hb
  obtain ⟨W, hW⟩ : ∃ W, W = w.alloc (.cells #[.int .u8 (t : Int)] 5) := ⟨_, rfl⟩
  have hfW : Fr No w W := by rw [hW]; exact (Fr.refl No w).alloc _
  have hOW : Ow Ty.u8 5 W (fun k => w.heap.size ≤ k) (.slice (some ⟨w.heap.size, 0, none⟩) 1 1) [UInt8.ofNat t] := by
    rw [hW]; exact ow_new1 (UInt8.ofNat t) (by rw [UInt8.toNat_ofNat']; omega)
  have hkey := okey_ok (c := c) (h.fr0 hfW) hn hl hb ho
  obtain ⟨q, hq⟩ : ∃ q, l.flatMap oneB = q := ⟨_, rfl⟩
  rw [hq] at hkey hbl HK0
  clear hq
  have H := Lib.hid (And.intro hkey (And.intro hOW (And.intro hfW (And.intro hbl hl))))
  clear hkey hOW hfW h hn hl hb ho hbl ht
  go_enter Tryz.func67, Tryz.ntmps67
  go_wp2_with fail
  rw [← hW]
  clear hW
  refine H.out.1.mono ?_
  rintro e w1 ⟨A1, c1, rfl, ho1, hf1⟩
  have hll := H.out.2.2.2.2
  have hbb := H.out.2.2.2.1
  obtain ⟨cs, hR, hA⟩ := (ho1.rd.2.2).at
  obtain ⟨A4, c4, w4, hrun, hO4, hg4, _⟩ := run_ow_append (P := Tryz.prog) (ty := 46) (ty' := 46) Ty.u8 (H.out.2.1.fr0 hf1) (.int .u8 0) 1 Tryz.underlying46 info_u8 rfl (by decide) (by decide) c1 (ys := q) (hR.imp fun _ _ h => h) hA (by simp only [List.length_singleton]; omega)
  simp only [List.length_singleton] at hrun hO4
  have hstr := run_str (c := c4) (n := 1 + (q).length) hO4.rd.2.2 (by rw [List.length_append]; rfl)
  rw [HK0.out] at hstr
  have HH := Lib.hid ((H.out.2.2.1.next hf1 (fun _ _ f => f.elim)).grown hg4 fun k hk => .inr (H.out.2.1.own hk).1)
  clear ho1 hf1 hR hA hO4 hg4 hll hbb
  go_wp2_with (at_builtin; refine wpList_plain rfl fun K hK => wp_append_run _ _ _ _ rfl rfl rfl hrun (hK _ _ ?_))
  go_ret
  exact ⟨rfl, HH.out⟩

set_option maxHeartbeats 1000000 in
set_option maxRecDepth 100000 in
theorem pack_ok {w : World} {R : Nat → Prop} {A : Option Addr} {c n : Nat} {l : List Val} (h : Rd tVal w R A l) (hn : n = l.length) (hl : l.length ≤ 8) (hb : ∀ v ∈ l, (encB v).length ≤ 1000) (ho : ∀ v ∈ l, ∀ w1 : World, Calls Tryz.prog 101 #[vA v] w1 (OwnB w1 (encB v))) :
    Calls Tryz.prog 50 #[.slice A n c] w (OwnB w (UInt8.ofNat l.length :: l.flatMap encB)) := by
  subst hn
  have hl0 : (0 : Int) ≤ (l.length : Int) := Int.natCast_nonneg _
  have hl8 : (l.length : Int) ≤ 8 := by omega
  have hlm : IntKind.u8.wrap (l.length : Int) = (l.length : Int) := by show (l.length : Int) % 256 = _; omega
  obtain ⟨W, hW⟩ : ∃ W, W = w.alloc (.cells #[.int .u8 (l.length : Int)] 5) := ⟨_, rfl⟩
  have hfW : Fr No w W := by rw [hW]; exact (Fr.refl No w).alloc _
  have hOW : Ow Ty.u8 5 W (fun k => w.heap.size ≤ k) (.slice (some ⟨w.heap.size, 0, none⟩) 1 1) [UInt8.ofNat l.length] := by
    rw [hW]; exact ow_new1 (UInt8.ofNat l.length) (by rw [UInt8.toNat_ofNat']; omega)
  obtain ⟨hd, hhd⟩ : ∃ hd, [UInt8.ofNat l.length] = hd := ⟨_, rfl⟩
  have hhl : hd.length = 1 := by rw [← hhd]; rfl
  rw [hhd] at hOW
  rw [show UInt8.ofNat l.length :: l.flatMap encB = hd ++ l.flatMap encB by rw [← hhd]; rfl]
  clear hhd
  have H := Lib.hid (And.intro h (And.intro hb (And.intro ho (And.intro hOW hfW))))
  clear h hb ho hOW hfW
  go_enter Tryz.func50, Tryz.ntmps50
  go_wp2_with fail
  rw [← hW]
  clear hW
  go_loopw [3, 12] (fun v iv wr => ∃ (k : Nat) (A' : Option Addr) (c' : Nat), k ≤ l.length ∧ iv = .int .i64 (k : Int) ∧ v = .slice A' (hd ++ (l.take k).flatMap encB).length c' ∧ Hid (Ow Ty.u8 5 wr (fun i => w.heap.size ≤ i) (.slice A' (hd ++ (l.take k).flatMap encB).length c') (hd ++ (l.take k).flatMap encB) ∧ Fr No w wr)) (fun _ iv _ => l.length - (intOf iv).toNat)
  case atStart => exact ⟨0, some ⟨w.heap.size, 0, none⟩, 1, Nat.zero_le _, rfl, by simp [hhl], by simpa [hhl] using H.out.2.2.2.1, H.out.2.2.2.2⟩
  case round =>
    obtain ⟨k, A', c', hk, rfl, rfl, I⟩ := hrel
    have hk0 : (0 : Int) ≤ (k : Int) := Int.natCast_nonneg _
    by_cases hlt : k < l.length
    · have hk1 : (k : Int) < (l.length : Int) := by omega
      obtain ⟨ad, rfl, x0, x1, x2⟩ := val_at (H.out.1.fr0 I.out.2) hlt
      have hone := H.out.2.2.1 l[k] (List.getElem_mem hlt)
      have hone1 := H.out.2.1 l[k] (List.getElem_mem hlt)
      have hsucc : hd ++ (l.take k).flatMap encB ++ encB l[k] = hd ++ (l.take (k + 1)).flatMap encB := by rw [List.append_assoc, flat_take (f := encB) hlt]
      have hpl : ((l.take k).flatMap encB).length ≤ 1000 * (l.take k).length := flat_le fun x hx => H.out.2.1 x (List.mem_of_mem_take hx)
      have hpl2 : (hd ++ (l.take k).flatMap encB).length ≤ 1000 * k + 1 := by rw [List.length_append]; rw [List.length_take] at hpl; omega
      obtain ⟨v, hv⟩ : ∃ v, l[k] = v := ⟨_, rfl⟩
      rw [hv] at x0 x1 x2 hone hone1 hsucc
      clear hv hpl
      obtain ⟨pre, hpre⟩ : ∃ pre, hd ++ (l.take k).flatMap encB = pre := ⟨_, rfl⟩
      rw [hpre] at I hsucc hpl2 ⊢
      have HO := Lib.hid (And.intro hone (And.intro hone1 (And.intro hsucc hpl2)))
      clear hone hone1 hsucc hpl2 hpre
      go_wp2_with fail
      refine (HO.out.1 _).mono ?_
      rintro e w3 ⟨A2, c2, rfl, ho2, hf3⟩
      have hf : Fr No wr w3 := ((Fr.refl No wr).alloc _).next hf3 (fun _ _ f => f.elim)
      obtain ⟨cs, hR, hA⟩ := (ho2.rd.2.2).at
      have hpl := HO.out.2.2.2
      have hol := HO.out.2.1
      obtain ⟨A4, c4, w4, hrun, hO4, hg4, _⟩ := run_ow_append (P := Tryz.prog) (ty := 46) (ty' := 46) Ty.u8 (I.out.1.fr0 hf) (.int .u8 0) 1 Tryz.underlying46 info_u8 rfl (by decide) (by decide) c2 (ys := encB v) (hR.imp fun _ _ h => h) hA (by omega)
      have hlen : pre.length + (encB v).length = (hd ++ (l.take (k + 1)).flatMap encB).length := by rw [← HO.out.2.2.1, List.length_append]
      rw [hlen] at hrun hO4
      rw [HO.out.2.2.1] at hO4
      obtain ⟨nxt, hnx⟩ : ∃ nxt, hd ++ (l.take (k + 1)).flatMap encB = nxt := ⟨_, rfl⟩
      rw [hnx] at hrun hO4
      have HX := Lib.hid hnx
      clear hnx
      have hsz := Nat.le_trans I.out.2.size hf.size
      have HH := Lib.hid (And.intro (hO4.mono (G := fun i => w.heap.size ≤ i) fun i hi _ => by rcases hi with hi | hi <;> omega) ((I.out.2.next hf (fun _ _ f => f.elim)).grown hg4 fun k hk => .inr (I.out.1.own hk).1))
      clear hf3 ho2 hf hR hA hO4 hg4 hlen hsz hpl hol
      go_wp2_with (at_builtin; refine wpList_plain rfl fun K hK => wp_append_run _ _ _ _ rfl rfl rfl hrun (hK _ _ ?_))
      go_roundw
      case rel => exact ⟨k + 1, A4, c4, by omega, by go_num, by rw [HX.out], by rw [HX.out]; exact HH.out.1, HH.out.2⟩
      case measure => simp [intOf]; omega
    · obtain rfl : k = l.length := by omega
      rw [List.take_length] at I ⊢
      go_wp2_with fail
      go_ret
      exact ⟨A', c', rfl, I.out.1, I.out.2⟩

set_option maxHeartbeats 400000 in
set_option maxRecDepth 100000 in
theorem has_ok {w : World} {A : Option Addr} {m c t : Nat} (ht : t < m) (hm : m ≤ 1000) : Calls Tryz.prog 97 #[.slice A m c, .int .i64 (t : Int)] w fun e w' => e = .returned (.bool true) ∧ w' = w := by
  have ht0 : (0 : Int) ≤ (t : Int) := Int.natCast_nonneg _
  have ht1 : (t : Int) < (m : Int) := by omega
  clear ht hm
  go_enter Tryz.func97, Tryz.ntmps97
  go_wp2_with fail
  go_ret
  exact ⟨rfl, rfl⟩
set_option maxHeartbeats 1000000 in
set_option maxRecDepth 100000 in
theorem tcheck_ok {w : World} {F G : Nat → Prop} {A B : Option Addr} {m c n c' t : Nat} {l : List Tab} {row : List Val} (ht : t < l.length) (hl : l.length ≤ 4) (h : Rd tTab w F A l) (hm : m = l.length) (hr : Rd tVal w G B row) (hn : n = row.length) (hlen : row.length = l[t].2.1.length)
    (hf : ∀ i (h : i < row.length) (h' : i < l[t].2.1.length), valFits l[t].2.1[i] row[i]) :
    Calls Tryz.prog 47 #[.slice A m c, .int .i64 (t : Int), .slice B n c'] w fun e w' => e = .returned (.int .i64 0) ∧ Fr No w w' := by
  obtain ⟨ad, R, c1, rfl, x0, x1, x2, hc1, hR⟩ := tab_at h ht
  clear x0 x2
  generalize l[t].2.1 = cols at *
  have hh := has_ok (w := w) (A := some ad) (m := m) (c := c) (t := t) (by omega) (by omega)
  have hck := check_ok (w := w) (c := c1) (c' := c') hR hr rfl hn hlen hf
  have ht0 : (0 : Int) ≤ (t : Int) := Int.natCast_nonneg _
  have ht1 : (t : Int) < (m : Int) := by omega
  have H := Lib.hid (And.intro hh hck)
  clear h hr hR hlen hf hh hck hm hn hc1
  go_enter Tryz.func47, Tryz.ntmps47
  go_wp2_with fail
  refine H.out.1.mono ?_
  rintro e w1 ⟨rfl, rfl⟩
  go_wp2_with fail
  refine H.out.2.mono ?_
  rintro e w1 ⟨rfl, hf1⟩
  go_wp2_with fail
  go_ret
  exact ⟨rfl, hf1⟩
set_option maxHeartbeats 1000000 in
set_option maxRecDepth 100000 in
theorem keyof_ok {w : World} {F R : Nat → Prop} {A B : Option Addr} {m c n c' t k : Nat} {l : List Tab} {row : List Val} (ht : t < l.length) (hl : l.length ≤ 4) (h : Rd tTab w F A l) (hm : m = l.length) (hk : l[t].2.2 = (k : Int)) (hk8 : k ≤ 8) (hr : Rd tVal w R B row) (hn : n = row.length) (hkr : k ≤ row.length) (hc : n ≤ c')
    (hb : ∀ v ∈ row, (oneB v).length ≤ 1000) (ho : ∀ v ∈ row, ∀ w1 : World, Calls Tryz.prog 177 #[vA v] w1 (OwnB w1 (oneB v))) :
    Calls Tryz.prog 49 #[.slice A m c, .int .i64 (t : Int), .slice B n c'] w fun e w' => e = .returned (.string (keyS t (row.take k))) ∧ Fr No w w' := by
  obtain ⟨ad, R1, c1, rfl, x0, x1, x2, hc1, hR⟩ := tab_at h ht
  rw [hk] at x2
  clear x0 x1 hc1 hR
  have hkey := tkey_ok (w := w) (c := c') (n := k) (t := t) (by omega) (hr.take k) (by rw [List.length_take]; omega) (by rw [List.length_take]; omega) (fun v hv => hb v (List.mem_of_mem_take hv)) (fun v hv => ho v (List.mem_of_mem_take hv))
  have ht0 : (0 : Int) ≤ (t : Int) := Int.natCast_nonneg _
  have ht1 : (t : Int) < (m : Int) := by omega
  have hk0 : (0 : Int) ≤ (k : Int) := Int.natCast_nonneg _
  have hk1 : (k : Int) ≤ (n : Int) := by omega
  have hk2 : (n : Int) ≤ (c' : Int) := by omega
  have H := Lib.hid hkey
  clear h hr hkey hk hb ho hm hn
  go_enter Tryz.func49, Tryz.ntmps49
  go_wp2_with fail
  refine H.out.mono ?_
  rintro e w1 ⟨rfl, hf1⟩
  go_wp2_with fail
  go_ret
  exact ⟨rfl, hf1⟩
end Go.Proofs.YtlmhphejgahfbaaGreatDoor
/- Layer 15 (ledger): Put. -/
set_option linter.unusedVariables false
set_option linter.unusedSimpArgs false
namespace Go.Proofs.YtlmhphejgahfbaaGreatDoor
open Go.RowKit

/-- A value whose bytes are known. -/
def GoodV (v : Val) : Prop := ((oneB v).length ≤ 1000 ∧ (encB v).length ≤ 1000) ∧ (∀ w1 : World, Calls Tryz.prog 177 #[vA v] w1 (OwnB w1 (oneB v))) ∧ ∀ w1 : World, Calls Tryz.prog 101 #[vA v] w1 (OwnB w1 (encB v))
theorem good_int (n : Int) (h0 : -9223372036854775808 ≤ n) (h1 : n < 9223372036854775808) : GoodV (vI n) := by
  refine ⟨⟨?_, ?_⟩, fun w1 => one_int n h0 h1, fun w1 => enc_int n⟩
  · show (2 :: beN (keyN n) 8).length ≤ 1000
    rw [List.length_cons, beN_len]; decide
  · show (1 :: beN (n % 18446744073709551616).toNat 8).length ≤ 1000
    rw [List.length_cons, beN_len]; decide
/-- What a row comes to: its key, its bytes. -/
def rowW (t k : Nat) (row : List Val) : Wr := ⟨keyS t (row.take k), UInt8.ofNat row.length :: row.flatMap encB, false⟩
/-- A row that a table takes. -/
structure RowFits (tabs : List Tab) (t k : Nat) (row : List Val) : Prop where
  lt : t < tabs.length
  few : tabs.length ≤ 4
  keys : (tabs[t]'lt).2.2 = (k : Int)
  len : row.length = (tabs[t]'lt).2.1.length
  kle : k ≤ row.length
  le8 : row.length ≤ 8
  fits : ∀ i (h : i < row.length) (h' : i < (tabs[t]'lt).2.1.length), valFits (tabs[t]'lt).2.1[i] row[i]
  good : ∀ v ∈ row, GoodV v
theorem rowW_len {tabs : List Tab} {t k : Nat} {row : List Val} (h : RowFits tabs t k row) : (rowW t k row).row.length ≤ 8001 := by
  have h1 := flat_le (f := encB) (m := 1000) (l := row) fun v hv => (h.good v hv).1.2
  have h2 := h.le8
  show (UInt8.ofNat row.length :: row.flatMap encB).length ≤ 8001
  rw [List.length_cons]
  omega

set_option maxHeartbeats 1000000 in
set_option maxRecDepth 100000 in
theorem led_put {w : World} {col : Nat → Nat} {lb : Nat} {L : Led} {id : Int} {x : LTx} {t k n c' : Nat} {R : Nat → Prop} {B : Option Addr} {row : List Val} (h : LedAt w col lb L) (hp : ∀ y ∈ L.txs, 0 ≤ y.id) (hx : L.find id = some x) (hws : x.ws.length ≤ 20) (hR : RowFits L.tabs t k row) (hr : Rd tVal w R B row) (hn : n = row.length) (hc : n ≤ c') :
    Calls Tryz.prog 13 #[.pointer (some ⟨lb, 0, none⟩), .int .i64 id, .int .i64 (t : Int), .slice B n c'] w fun e w' =>
      e = .returned (.int .i64 (wwrite x.ws (rowW t k row)).2) ∧ (∃ col', (∀ i, i < w.heap.size → col' i = col i) ∧ LedAt w' col' lb (L.setTx id (wwrite x.ws (rowW t k row)).1)) ∧ Fr (fun i => col i = txCol id) w w' := by
  obtain ⟨A, c, sb, mb, vst, l, hP⟩ := h
  obtain ⟨xb, hlook, hT⟩ := hP.txs.some_ id x hx
  have hof := led_of id (some ⟨xb, 0, none⟩) hP.blk hP.map hlook
  have hcheck := tcheck_ok (c := c) (c' := c') hR.lt hR.few hP.tabs rfl hr hn hR.len hR.fits
  have hkey := fun (w1 : World) (f : Fr No w w1) => keyof_ok (c := c) (c' := c') hR.lt hR.few (hP.tabs.fr0 f) rfl hR.keys (Nat.le_trans hR.kle hR.le8) (hr.fr0 f) hn hR.kle hc (fun v hv => (hR.good v hv).1.1) (fun v hv => (hR.good v hv).2.1)
  have hpack := fun (w1 : World) (f : Fr No w w1) => pack_ok (c := c') (hr.fr0 f) hn hR.le8 (fun v hv => (hR.good v hv).1.2) (fun v hv => (hR.good v hv).2.2)
  have hlen := rowW_len hR
  have hput := fun (w1 : World) (f : Fr No w w1) (A2 : Option Addr) (c2 : Nat) (hr2 : Rd Ty.u8 w1 (fun _ => True) A2 (rowW t k row).row) => tx_put (c := c2) (n := (rowW t k row).row.length) (keyS t (row.take k)) (hT.fr0 f) hr2 hws rfl (by omega)
  have c0 := blk_cell hP.blk 0
  simp at c0
  obtain ⟨y, hy⟩ : ∃ y, rowW t k row = y := ⟨_, rfl⟩
  rw [show (⟨keyS t (row.take k), (rowW t k row).row, false⟩ : Wr) = y from hy] at hput
  rw [show UInt8.ofNat row.length :: row.flatMap encB = y.row from hy ▸ rfl] at hpack
  rw [show (rowW t k row).row = y.row from hy ▸ rfl] at hput
  rw [hy]
  obtain ⟨kk, hkk⟩ : ∃ kk, keyS t (row.take k) = kk := ⟨_, rfl⟩
  rw [hkk] at hkey hput
  have H := Lib.hid (And.intro hof (And.intro hcheck (And.intro hkey (And.intro hpack hput))))
  have HP := Lib.hid (And.intro hP (And.intro hp (And.intro hx hlook)))
  clear hof hcheck hkey hpack hput hP hp hx hlook hT hR hr hws hy hkk hlen hn hc
  go_enter Tryz.func13, Tryz.ntmps13
  go_wp2_with fail
  refine H.out.1.mono ?_
  rintro e w ⟨rfl, rfl⟩
  go_wp2_with fail
  refine H.out.2.1.mono ?_
  rintro e w1 ⟨rfl, hf1⟩
  have d0 := hf1.cell c0 (fun f => f)
  have H1 := Lib.hid hf1
  clear hf1
  go_wp2_with fail
  refine (H.out.2.2.1 _ H1.out).mono ?_
  rintro e w2 ⟨rfl, hf2⟩
  have H2 := Lib.hid (H1.out.next hf2 (fun _ _ f => f.elim))
  clear hf2
  go_wp2_with fail
  refine (H.out.2.2.2.1 _ H2.out).mono ?_
  rintro e w3 ⟨A2, c2, rfl, ho3, hf3⟩
  have H3 := Lib.hid (And.intro (ho3.rd.2.2.mono (G := fun _ => True) fun _ _ _ => trivial) (H2.out.next hf3 (fun _ _ f => f.elim)))
  clear ho3 hf3
  go_wp2_with fail
  refine (H.out.2.2.2.2 _ H3.out.2 A2 c2 H3.out.1).mono ?_
  rintro e w4 ⟨rfl, hT4, hf4⟩
  have hff : Fr (fun i => col i = txCol id) w w4 := (H3.out.2.mono fun _ _ f => f.elim).trans (hf4.mono fun i _ hi => .inl hi)
  have H4 := Lib.hid (And.intro (hT4.mono (F' := fun i => col i = txCol id ∨ w.heap.size ≤ i) fun i hi _ => by rcases hi with hi | hi; exact .inl hi; right; have := H3.out.2.size; omega) hff)
  clear hT4 hf4 hff
  go_wp2_with fail
  go_ret
  exact ⟨rfl, ⟨_, fun i hi => ext_old col hi, _, _, _, _, _, _, HP.out.1.setTx HP.out.2.1 HP.out.2.2.1 HP.out.2.2.2 H4.out.1 H4.out.2⟩, H4.out.2⟩
end Go.Proofs.YtlmhphejgahfbaaGreatDoor
/- Layer 15 (ledger): few things stay few: New, Begin, Put; the document's example, in plain words. -/
set_option linter.unusedVariables false
set_option linter.unusedSimpArgs false
namespace Go.Proofs.YtlmhphejgahfbaaGreatDoor
open Go.RowKit

theorem Led.Ok.new {tabs : List Tab} (h : TabsOk tabs) (m : Nat) : (Led.new tabs).Ok m where
  tabs := h
  sto := ⟨Int.le_refl _, Int.natCast_nonneg _, Nat.zero_le _, fun p hp => (by cases hp), fun p hp => (by cases hp)⟩
  next0 := Int.le_refl _
  next1 := Int.natCast_nonneg _
  ids := fun x hx => by cases hx
  once := List.nodup_nil
  base := fun x hx => by cases hx
  ws := fun x hx => by cases hx
  rise := fun x hx => by cases hx
  sts := ⟨Nat.le_refl _, (show 1 ≤ 6 by decide)⟩
  st := fun x hx => by
    obtain rfl : x = _ := List.mem_singleton.1 hx
    exact ⟨sha_size _, sha_size _, sha_size _, TrOk.nil 0 (by decide), Nat.zero_le _⟩
theorem Led.Ok.begin_ {L : Led} {m : Nat} (h : L.Ok m) (hm : L.next + 1 ≤ m) : L.begin_.Ok m where
  tabs := h.tabs
  sto := h.sto
  next0 := by have := h.next0; show 0 ≤ L.next + 1; omega
  next1 := hm
  ids := fun x hx => by
    have h0 := h.next0
    show 1 ≤ x.id ∧ x.id ≤ L.next + 1
    rcases List.mem_append.1 hx with hx | hx
    · have := h.ids x hx; omega
    · obtain rfl : x = _ := List.mem_singleton.1 hx
      dsimp only; omega
  once := by
    show ((L.txs ++ [_]).map LTx.id).Nodup
    rw [List.map_append]
    refine List.nodup_append.2 ⟨h.once, by simp, fun a ha b hb => ?_⟩
    obtain ⟨x, hx, rfl⟩ := List.mem_map.1 ha
    obtain rfl : b = L.next + 1 := by simpa using hb
    have := (h.ids x hx).2
    omega
  base := fun x hx => by
    rcases List.mem_append.1 hx with hx | hx
    · exact h.base x hx
    · obtain rfl : x = _ := List.mem_singleton.1 hx
      exact ⟨h.sto.now0, Int.le_refl _⟩
  ws := fun x hx => by
    rcases List.mem_append.1 hx with hx | hx
    · exact h.ws x hx
    · obtain rfl : x = _ := List.mem_singleton.1 hx
      exact ⟨Nat.zero_le _, fun y hy => (by cases hy)⟩
  rise := fun x hx => by
    rcases List.mem_append.1 hx with hx | hx
    · exact h.rise x hx
    · obtain rfl : x = _ := List.mem_singleton.1 hx
      exact List.Pairwise.nil
  sts := h.sts
  st := h.st
theorem Led.Ok.setTx {L : Led} {m : Nat} {id : Int} {ws : List Wr} (h : L.Ok m) (h1 : ws.length ≤ 20 ∧ ∀ y ∈ ws, 1 ≤ y.key.size ∧ y.key.size ≤ 1000 ∧ y.row.length ≤ 4000 ∧ (y.gone = true → y.row = [])) (h2 : Rising (ws.map Wr.key)) : (L.setTx id ws).Ok m := by
  have hmem : ∀ x ∈ (L.setTx id ws).txs, ∃ y ∈ L.txs, x.id = y.id ∧ x.base = y.base ∧ (x.ws = y.ws ∨ x.ws = ws) := fun x hx => by
    obtain ⟨y, hy, rfl⟩ := List.mem_map.1 hx
    refine ⟨y, hy, ?_⟩
    split
    · exact ⟨rfl, rfl, .inr rfl⟩
    · exact ⟨rfl, rfl, .inl rfl⟩
  refine ⟨h.tabs, h.sto, h.next0, h.next1, fun x hx => ?_, ?_, fun x hx => ?_, fun x hx => ?_, fun x hx => ?_, h.sts, h.st⟩
  · obtain ⟨y, hy, a, b, c⟩ := hmem x hx
    rw [a]; exact h.ids y hy
  · have : (L.setTx id ws).txs.map LTx.id = L.txs.map LTx.id := by
      unfold Led.setTx
      rw [List.map_map]
      refine List.map_congr_left fun x _ => ?_
      show (if x.id = id then { x with ws := ws } else x).id = x.id
      split <;> rfl
    rw [this]; exact h.once
  · obtain ⟨y, hy, a, b, c⟩ := hmem x hx
    rw [b]; exact h.base y hy
  · obtain ⟨y, hy, a, b, c⟩ := hmem x hx
    rcases c with c | c
    · rw [c]; exact h.ws y hy
    · rw [c]; exact h1
  · obtain ⟨y, hy, a, b, c⟩ := hmem x hx
    rcases c with c | c
    · rw [c]; exact h.rise y hy
    · rw [c]; exact h2
/-- A number's row in the one table. -/
def numW (n : Int) : Wr := rowW 0 1 [vI n]
theorem numFits (n : Int) (h0 : -9223372036854775808 ≤ n) (h1 : n < 9223372036854775808) : RowFits [tab0] 0 1 [vI n] where
  lt := by decide
  few := by decide
  keys := rfl
  len := rfl
  kle := Nat.le_refl 1
  le8 := (show 1 ≤ 8 by decide)
  fits := fun i h h' => by
    obtain rfl : i = 0 := by have : i < 1 := h; omega
    exact valFits_int n rfl
  good := fun v hv => by
    obtain rfl : v = _ := List.mem_singleton.1 hv
    exact good_int n h0 h1
theorem numW_fine (n : Int) : 1 ≤ (numW n).key.size ∧ (numW n).key.size ≤ 1000 ∧ (numW n).row.length ≤ 4000 ∧ ((numW n).gone = true → (numW n).row = []) := by
  have hk : (numW n).key.size = 10 := by
    show ((UInt8.ofNat 0 :: [vI n].flatMap oneB).toArray).size = 10
    rw [List.size_toArray, List.length_cons]
    show ([vI n].flatMap oneB).length + 1 = 10
    rw [show [vI n].flatMap oneB = 2 :: beN (keyN n) 8 ++ [] from rfl, List.append_nil, List.length_cons, beN_len]
  have hr : (numW n).row.length = 10 := by
    show (UInt8.ofNat 1 :: [vI n].flatMap encB).length = 10
    rw [List.length_cons, show [vI n].flatMap encB = 1 :: beN (n % 18446744073709551616).toNat 8 ++ [] from rfl, List.append_nil, List.length_cons, beN_len]
  refine ⟨by omega, by omega, by omega, fun h => by cases h⟩
/-- The example's ledger, ahead of its commit. -/
def onceL : Led := (Led.new [tab0]).begin_.setTx 1 [numW 5]
theorem onceL_ok : onceL.Ok 4 := ((Led.Ok.new tab0_ok 4).begin_ (by decide)).setTx ⟨by decide, fun y hy => by obtain rfl : y = _ := List.mem_singleton.1 hy; exact numW_fine 5⟩ (by simp [Rising])
theorem onceL_find : onceL.find 1 = some ⟨1, 0, [numW 5]⟩ := rfl
theorem onceL_form : onceL.formN [1] 1 = ([0], [numW 5]) := by
  have h : (1 : Nat) = 0 + 1 := rfl
  have hb : onceL.bars ⟨1, 0, [numW 5]⟩ (onceL.formN [1] 0).2 = false := rfl
  exact formN_ok (L := onceL) (ids := [1]) (k := 0) (by decide) onceL_find (by simp) hb
theorem once_out {ys : List Wr} (h : ys.Perm (onceL.formN [1] 1).2) : (onceL.publish ys [1]).s.now = 1 ∧ ∃ x, (onceL.publish ys [1]).sts = [⟨firstD, dE, sha [], .nil⟩, x] := by
  rw [onceL_form] at h
  obtain rfl : ys = [numW 5] := List.perm_singleton.1 h
  exact ⟨rfl, _, rfl⟩
end Go.Proofs.YtlmhphejgahfbaaGreatDoor
/- slices.SortFunc at writes, by their keys. -/
set_option linter.unusedVariables false
set_option linter.unusedSimpArgs false
namespace Go.Proofs.YtlmhphejgahfbaaGreatDoor
open Go.RowKit Go.Shelf Go.Sort

/-- Which one stands ahead. -/
def cmpKey (a b : ByteArray) : Int := if kl a b then -1 else if kl b a then 1 else 0
theorem compare_ok (a b : ByteArray) (w : World) : Calls Tryz.prog 77 #[.string a, .string b] w fun e w' => e = .returned (.int .i64 (cmpKey a b)) ∧ w' = w := by
  have hn : ∀ x, Calls Tryz.prog 142 #[.string x] w fun e w' => e = .returned (.bool false) ∧ w' = w := by
    intro x
    go_enter Tryz.func142, Tryz.ntmps142
    go_wp2
    go_ret
    exact ⟨by simp, rfl⟩
  have H := Lib.hid hn
  clear hn
  have hc : ∀ (u : Int), cmpKey a b = u ↔ u = cmpKey a b := fun u => eq_comm
  have HC := Lib.hid hc
  clear hc
  have hb : (a.toList == b.toList) = (!Op.bytesLess a.toList b.toList && !Op.bytesLess b.toList a.toList) := by
    rw [beq_toList]
    cases h1 : Op.bytesLess a.toList b.toList with
    | true => exact decide_eq_false (kl_ne h1)
    | false =>
      cases h2 : Op.bytesLess b.toList a.toList with
      | true => exact decide_eq_false fun e => kl_ne h2 e.symm
      | false => exact decide_eq_true (kl_tri h1 h2)
  cases h1 : Op.bytesLess a.toList b.toList <;> cases h2 : Op.bytesLess b.toList a.toList
  all_goals
    have h3 : cmpKey a b = if kl a b then -1 else if kl b a then 1 else 0 := rfl
    unfold kl at h3
    rw [h1, h2] at h3 hb
    have H3 := Lib.hid h3
    clear h3
    simp only [Bool.not_true, Bool.not_false, Bool.and_true, Bool.and_false, Bool.true_and, Bool.false_and] at hb
    go_enter Tryz.func77, Tryz.ntmps77
    go_wp2_with (go_at_call 142; refine (H.out _).mono ?_; rintro e w' ⟨rfl, rfl⟩)
    go_ret
    exact ⟨by rw [H3.out]; rfl, rfl⟩

instance : Inhabited Wr := ⟨⟨⟨#[]⟩, [], false⟩⟩
/-- A write, and where its row lies. -/
abbrev WrR := Wr × (Option Addr × Nat × Nat)
def encW (x : WrR) : List Value := [.string x.1.key, .slice x.2.1 x.2.2.1 x.2.2.2, .bool x.1.gone]
def cfW (x y : WrR) : Int := cmpKey x.1.key y.1.key
theorem ltW (x y : WrR) : ltOf cfW x y = kl x.1.key y.1.key := by
  unfold ltOf cfW cmpKey
  cases h1 : kl x.1.key y.1.key <;> cases h2 : kl y.1.key x.1.key <;> simp
theorem swoW : SWO (ltOf cfW) where
  irrefl x := by rw [ltW, kl_irrefl]
  trans x y z h1 h2 := by rw [ltW] at *; exact kl_trans h1 h2
  ntrans x y z h1 h2 := by
    rw [ltW] at *
    cases h : kl x.1.key z.1.key with
    | false => rfl
    | true =>
      cases h3 : kl y.1.key x.1.key with
      | true => rw [kl_trans h3 h] at h2; cases h2
      | false => rw [kl_tri h1 h3] at h; rw [h] at h2; cases h2

set_option maxHeartbeats 1000000 in
theorem form1_fn (x y : WrR) (W : World) : Calls Tryz.prog 76 #[.agg (encW x).toArray, .agg (encW y).toArray] W fun e w' => e = .returned (.int .i64 (cfW x y)) ∧ ∃ q os', w' = grow (W.drewN q) os' := by
  have H := Lib.hid (compare_ok x.1.key y.1.key)
  obtain ⟨⟨k1, r1, g1⟩, A1, n1, c1⟩ := x
  obtain ⟨⟨k2, r2, g2⟩, A2, n2, c2⟩ := y
  unfold cfW
  dsimp only at H ⊢
  generalize cmpKey k1 k2 = r at H ⊢
  change Calls _ _ #[.agg #[.string k1, .slice A1 n1 c1, .bool g1], .agg #[.string k2, .slice A2 n2 c2, .bool g2]] _ _
  go_enter Tryz.func76, Tryz.ntmps76
  go_wp2_with (go_at_call 77; refine (H.out _).mono ?_; rintro e w' ⟨rfl, rfl⟩)
  go_ret
  exact ⟨rfl, 0, _, by rw [alloc_eq_grow, alloc_eq_grow, grow_grow]; rfl⟩

theorem row_wrR {w : World} {F : Nat → Prop} {xs : List Wr} {cs : List Value} (h : Row tWrO w F xs cs) : ∃ d : List WrR, d.map Prod.fst = xs ∧ cs = d.flatMap encW ∧ ∀ x ∈ d, tWrO.K w F x.1 (encW x) := by
  induction xs generalizing cs with
  | nil => exact ⟨[], rfl, h, fun x hx => by cases hx⟩
  | cons x xs ih =>
    obtain ⟨c, e, rfl, h1, h2⟩ := h
    obtain ⟨d, h3, rfl, h4⟩ := ih h2
    obtain ⟨A, c', rfl, h5⟩ := tWrO_open h1
    refine ⟨(x, A, x.row.length, c') :: d, by rw [List.map_cons, h3], rfl, fun y hy => ?_⟩
    rcases List.mem_cons.1 hy with rfl | hy
    · exact h1
    · exact h4 y hy
theorem row_wrR_mk {w : World} {F : Nat → Prop} {d : List WrR} (h : ∀ x ∈ d, tWrO.K w F x.1 (encW x)) : Row tWrO w F (d.map Prod.fst) (d.flatMap encW) := by
  induction d with
  | nil => rfl
  | cons x d ih => exact ⟨encW x, d.flatMap encW, rfl, h x (List.mem_cons_self ..), ih fun y hy => h y (List.mem_cons_of_mem _ hy)⟩
theorem flat_getW (d : List WrR) : ∀ t, t < d.length * 3 → (d.flatMap encW)[t]? = some ((encW d[t / 3]!)[t % 3]!) := by
  induction d with
  | nil => intro t ht; simp at ht
  | cons x d ih =>
    intro t ht
    rw [List.flatMap_cons]
    match t with
    | 0 => rfl
    | 1 => rfl
    | 2 => rfl
    | t + 3 =>
      have e1 : (t + 3) / 3 = t / 3 + 1 := by omega
      have e2 : (t + 3) % 3 = t % 3 := by omega
      rw [List.getElem?_append_right (by show 3 ≤ t + 3; omega), show t + 3 - (encW x).length = t from rfl, ih t (by simp at ht; omega), e1, e2]
      rfl
theorem flatK_eqW (d : List WrR) : (flatK encW 3 d.toArray).toList = d.flatMap encW := by
  apply List.ext_getElem?
  intro t
  by_cases ht : t < d.length * 3
  · rw [flat_getW d t ht]
    have h1 : t < (flatK encW 3 d.toArray).size := by rw [size_flatK]; simpa using ht
    have := get_flatK encW 3 d.toArray t (by simpa using ht)
    rw [getElem!_pos _ t h1] at this
    rw [Array.getElem?_toList, Array.getElem?_eq_getElem h1, this]
    simp
  · have h2 : (d.flatMap encW).length = d.length * 3 := by
      clear ht
      induction d with
      | nil => rfl
      | cons x d ih => rw [List.flatMap_cons, List.length_append, ih, List.length_cons]; show 3 + _ = _; omega
    rw [List.getElem?_eq_none (by rw [Array.length_toList, size_flatK]; simp; omega), List.getElem?_eq_none (by omega)]

theorem mapBlock_atW {w : World} {g : Nat} {cur : Array Value} {e : TypeId} {fr : Nat × Nat} (hb : w.heap[g]? = some (.cells cur e fr)) (f : Array Value → Array Value) : (mapBlock w g f).heap[g]? = some (.cells (f cur) e fr) := by
  unfold mapBlock
  simp only [Array.getElem?_modify, if_true, hb, Option.map_some]
  rfl
theorem mapBlock_farW {w : World} {g k : Nat} (f : Array Value → Array Value) (h : k ≠ g) : (mapBlock w g f).heap[k]? = w.heap[k]? := by
  unfold mapBlock
  simp only [Array.getElem?_modify, if_neg (fun e : g = k => h e.symm)]
theorem putCells_takeW {d cur : Array Value} (h : d.size ≤ cur.size) : (putCells id 0 d cur).toList.take d.size = d.toList := by
  apply List.ext_getElem?
  intro j
  rw [List.getElem?_take, Array.getElem?_toList, Array.getElem?_toList]
  unfold putCells
  rw [Array.getElem?_mapIdx]
  split
  · rename_i hj
    rw [Array.getElem?_eq_getElem (show j < cur.size by omega), Option.map_some, if_pos ⟨Nat.zero_le _, by omega⟩, Array.getElem?_eq_getElem hj]
    simp [getElem!_pos d j hj]
  · rename_i hj
    rw [Array.getElem?_eq_none (by omega)]

theorem key_nodup_sortedW {d : Array WrR} {n : Nat} (hs : SortedIn (ltOf cfW) 0 n d) (hn : n = d.size) (hd : (d.toList.map fun x => x.1.key).Nodup) : Rising (d.toList.map fun x => x.1.key) := by
  unfold Rising
  rw [List.pairwise_iff_getElem]
  intro i j hi hj hij
  simp only [List.length_map, Array.length_toList] at hi hj
  have h1 := hs i j (Nat.zero_le _) hij (by omega)
  rw [ltW, getElem!_pos d i hi, getElem!_pos d j hj] at h1
  have h2 : d[i].1.key ≠ d[j].1.key := by
    have := List.pairwise_iff_getElem.1 hd i j (by simpa using hi) (by simpa using hj) hij
    simpa using this
  simp only [List.getElem_map, Array.getElem_toList]
  cases h3 : kl d[i].1.key d[j].1.key with
  | true => rfl
  | false => exact absurd (kl_tri h3 h1) h2

set_option maxHeartbeats 1000000 in
theorem sort_writes {w : World} {F : Nat → Prop} {A : Option Addr} {c : Nat} {xs : List Wr} (h : Ow tWrO 117 w F (.slice A xs.length c) xs) (hl : xs.length ≤ 1000000000) (hnd : (xs.map Wr.key).Nodup) :
    Calls Tryz.prog 75 #[.slice A xs.length c, .func (.func 76) #[] #[]] w fun e w' =>
      e = .returned (.tuple #[]) ∧ ∃ ys, ys.Perm xs ∧ Rising (ys.map Wr.key) ∧ Ow tWrO 117 w' F (.slice A xs.length c) ys ∧ Fr (fun k => (Value.slice A xs.length c).ownBlock = some k) w w' := by
  obtain ⟨cs, ho1, ho2, ho3⟩ := h
  rcases ho1.2 with ⟨h5, h4⟩ | ⟨g, cap, cur, h4, _, hb, hnc, hcm, hsz, htk⟩
  · obtain rfl := List.eq_nil_of_length_eq_zero h4
    refine (AnyF.slices_SortFunc_none (P := Tryz.prog) (ρ := Tryz.sortF75_ren) Tryz.sortF75 A c _ w).mono ?_
    rintro e w' ⟨rfl, rfl⟩
    exact ⟨rfl, [], .refl _, List.Pairwise.nil, ⟨cs, ho1, ho2, ho3⟩, Fr.refl _ _⟩
  · injection h4 with h5 h6 h7
    subst h5
    subst h7
    obtain ⟨d, hd1, rfl, hd2⟩ := row_wrR ho2
    have hdl : d.length = xs.length := by rw [← hd1]; simp
    have hds : d.toArray.size = xs.length := by simpa using hdl
    have hH : HoldsK encW 3 w g 0 d.toArray := by
      intro j hj
      rw [size_flatK, hds] at hj
      refine ⟨?_, by rw [Nat.zero_add]; exact blk_frozen hb j⟩
      rw [Nat.zero_add, blk_cell hb, id_eq]
      have e1 : (flatK encW 3 d.toArray).toList[j]? = (d.flatMap encW)[j]? := by rw [flatK_eqW]
      rw [Array.getElem?_toList, Array.getElem?_eq_getElem (by rw [size_flatK, hds]; exact hj)] at e1
      rw [getElem!_pos _ j (by rw [size_flatK, hds]; exact hj), e1, ← htk, List.getElem?_take, if_pos (show j < xs.length * tWrO.sz from hj), Array.getElem?_toList]
    have hcon := AnyQ.slices_SortFunc Tryz.sortF75 3 Tryz.isAgg117 Tryz.sizeOf117 encW (fun _ => rfl) (fun x v hv => by simp [encW] at hv; rcases hv with rfl | rfl | rfl <;> rfl) cfW swoW 76 #[] g 0 c d.toArray w
      (enters_of Tryz.func76 (by kernel_rfl) rfl) (fun _ _ _ _ x y => form1_fn x y _) hH (blk_lt hb) (by rw [hds]; omega)
    rw [hds] at hcon
    refine Calls.mono hcon ?_
    rintro e w' ⟨rfl, d', n, os, hp, hs, rfl⟩
    have hsz' : d'.size = xs.length := hp.1.trans hds
    have hperm : d'.toList.Perm d := by
      have := hp.2.2
      rw [Array.extract_eq_self_of_le (by omega), Array.extract_eq_self_of_le (by omega)] at this
      simpa using this
    have hf : Fr (fun k => (Value.slice (some ⟨g, 0, none⟩) xs.length c).ownBlock = some k) w (sortWorldK encW 3 w g 0 n d' os) := by
      refine ⟨rfl, rfl, rfl, by simp [sortWorldK, putRowK, putRow, mapBlock, grow, Sort.ahead], fun k hk hn => ?_⟩
      have hne : k ≠ g := fun e => hn (by rw [e]; rfl)
      unfold sortWorldK grow putRowK putRow
      simp only []
      rw [Array.getElem?_append_left (by simp [mapBlock, Sort.ahead]; exact hk), mapBlock_farW _ hne]
      rfl
    have hb' : (sortWorldK encW 3 w g 0 n d' os).heap[g]? = some (.cells (putCells id 0 (flatK encW 3 d') cur) 117 (0, 0)) := by
      unfold sortWorldK grow putRowK putRow
      simp only []
      rw [Array.getElem?_append_left (by simp [mapBlock, Sort.ahead]; exact blk_lt hb)]
      exact mapBlock_atW (w := Sort.ahead w n) hb _
    have hcur : (flatK encW 3 d').size ≤ cur.size := by rw [size_flatK, hsz', hsz]; exact Nat.mul_le_mul_right 3 hnc
    have hflat : (flatK encW 3 d').toList = d'.toList.flatMap encW := by have := flatK_eqW d'.toList; simpa using this
    have hkeys : (d'.toList.map fun x => x.1.key) = (d'.toList.map Prod.fst).map Wr.key := by rw [List.map_map]; rfl
    have hpx : (d'.toList.map Prod.fst).Perm xs := by have := hperm.map Prod.fst; rwa [hd1] at this
    refine ⟨rfl, d'.toList.map Prod.fst, hpx, ?_, ⟨d'.toList.flatMap encW, ⟨?_, .inr ⟨g, c, _, ?_, Nat.zero_le _, hb', ?_, hcm, ?_, ?_⟩⟩, ?_, ho3⟩, hf⟩
    · rw [← hkeys]
      refine key_nodup_sortedW hs hsz'.symm ?_
      rw [hkeys]
      exact (hpx.map Wr.key).nodup_iff.2 hnd
    · rw [← hflat, Array.length_toList, size_flatK]; simp [hsz']; rfl
    · simp [hsz']
    · simpa [hsz'] using hnc
    · unfold putCells; simpa using hsz
    · have := putCells_takeW hcur
      rw [size_flatK] at this
      rw [List.length_map, Array.length_toList]
      show List.take (d'.size * 3) _ = _
      rw [this, hflat]
    · refine row_wrR_mk fun x hx => ?_
      have h1 := hd2 x (hperm.subset hx)
      exact (tWrO.stab h1 fun k hk hl => hf.block k hl hk.2)
end Go.Proofs.YtlmhphejgahfbaaGreatDoor
