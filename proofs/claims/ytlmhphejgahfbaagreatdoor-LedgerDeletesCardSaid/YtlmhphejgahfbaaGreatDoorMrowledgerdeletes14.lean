/- Texts of this claim, one behind the other: Trie, Cat4, Mark. -/
import Derived.Test.YtlmhphejgahfbaaGreatDoorMrowledgerdeletes5
import Derived.Test.YtlmhphejgahfbaaGreatDoorMrowledgerdeletes6
import Derived.Test.YtlmhphejgahfbaaGreatDoorMrowledgerdeletes12
import Derived.Test.YtlmhphejgahfbaaGreatDoorMrowledgerdeletes13
/- The program's tree in memory: nodes; Digest, Len, single, leaf. -/
set_option linter.unusedVariables false
set_option linter.unusedSimpArgs false
namespace Go.Proofs.YtlmhphejgahfbaaGreatDoor
open Go.RowKit

/-- A key's sum; its bits; the digests. -/
def sumK (k : ByteArray) : ByteArray := sha (keyB k)
def hbit (k : ByteArray) (i : Nat) : Bool := bitB (sumK k) i
def dE : ByteArray := sha [0]
def dL (x : Itm) : ByteArray := sha (leafB x.1 x.2)
def dN (a b : ByteArray) : ByteArray := sha (nodeB a b)
def digT (t : Tr) : ByteArray := t.dig dE dL dN
def sameK (a b : ByteArray) : Bool := decide (sumK a = sumK b)
theorem sha_size (p : Bs) : (sha p).size = 32 := by
  show (shaB p).toArray.size = 32
  rw [List.size_toArray]
  exact outB_len _ 8
theorem digT_size (t : Tr) : (digT t).size = 32 := by cases t <;> exact sha_size _

/-- A tree at a pointer: all its blocks are at B or behind. -/
def NodeAt (B : Nat → Prop) (w : World) (v : Value) : Tr → Prop
  | .nil => v = .pointer none
  | .leaf k r => ∃ b A c, v = .pointer (some ⟨b, 0, none⟩) ∧ B b ∧ w.heap[b]? = some (.cells #[.pointer none, .pointer none, .string (sumK k), .string k, .slice A r.length c, .string (dL (k, r)), .int .i64 1] 205 (0, 0)) ∧ Rd Ty.u8 w (B) A r
  | .node l r => ∃ b vl vr, v = .pointer (some ⟨b, 0, none⟩) ∧ B b ∧ w.heap[b]? = some (.cells #[vl, vr, .string ⟨#[]⟩, .string ⟨#[]⟩, .slice none 0 0, .string (digT (.node l r)), .int .i64 ((l.len + r.len : Nat) : Int)] 205 (0, 0)) ∧ NodeAt B w vl l ∧ NodeAt B w vr r
theorem NodeAt.stab {B : Nat → Prop} {w w' : World} {v : Value} {t : Tr} (h : NodeAt B w v t) (k : ∀ i, B i → i < w.heap.size → w'.heap[i]? = w.heap[i]?) : NodeAt B w' v t := by
  induction t generalizing v with
  | nil => exact h
  | leaf key r =>
    obtain ⟨b, A, c, h1, h2, h3, h4⟩ := h
    exact ⟨b, A, c, h1, h2, (k b h2 (blk_lt h3)).trans h3, h4.stab k⟩
  | node l r ihl ihr =>
    obtain ⟨b, vl, vr, h1, h2, h3, h4, h5⟩ := h
    exact ⟨b, vl, vr, h1, h2, (k b h2 (blk_lt h3)).trans h3, ihl h4, ihr h5⟩
theorem NodeAt.fr0 {B : Nat → Prop} {w w' : World} {v : Value} {t : Tr} (h : NodeAt B w v t) (f : Fr No w w') : NodeAt B w' v t := h.stab fun i _ hl => f.block i hl (fun f => f)
theorem NodeAt.ptr {B : Nat → Prop} {w : World} {v : Value} {t : Tr} (h : NodeAt B w v t) (hn : t.isNil = false) : ∃ b, v = .pointer (some ⟨b, 0, none⟩) := by
  cases t with
  | nil => cases hn
  | leaf k r => obtain ⟨b, A, c, h1, _⟩ := h; exact ⟨b, h1⟩
  | node l r => obtain ⟨b, vl, vr, h1, _⟩ := h; exact ⟨b, h1⟩
theorem NodeAt.nil_iff {B : Nat → Prop} {w : World} {v : Value} {t : Tr} (h : NodeAt B w v t) : v = .pointer none ↔ t.isNil = true := by
  cases t with
  | nil => exact ⟨fun _ => rfl, fun _ => h⟩
  | leaf k r => obtain ⟨b, A, c, h1, _⟩ := h; subst h1; exact ⟨fun e => by simp at e, fun e => by cases e⟩
  | node l r => obtain ⟨b, vl, vr, h1, _⟩ := h; subst h1; exact ⟨fun e => by simp at e, fun e => by cases e⟩

/-! ### What is hashed -/
set_option maxHeartbeats 1000000 in
set_option maxRecDepth 100000 in
theorem mark_empty {w : World} (hk : KAt w) : Calls Tryz.prog 38 #[] w fun e w' => e = .returned (.string dE) ∧ Fr No w w' := by
  have hf : Fr No w (w.alloc (.cells #[.int .u8 0] 5)) := (Fr.refl No w).alloc _
  have hs := sum_ok (c := 1) (rd_new (w := w) (t := 5) (cs := #[.int .u8 0]) (p := [0]) (Fr.refl No _) rfl (by simp)) (hk.fr0 hf) (by simp)
  have H := Lib.hid (And.intro hs hf)
  clear hs hf hk
  go_enter Tryz.func38, Tryz.ntmps38
  go_wp2_with fail
  refine H.out.1.mono ?_
  rintro e w1 ⟨rfl, hf⟩
  go_wp2_with fail
  go_ret
  exact ⟨rfl, H.out.2.trans (hf.mono fun _ _ f => f.elim)⟩
set_option maxHeartbeats 1000000 in
set_option maxRecDepth 100000 in
theorem mark_node {w : World} (l r : ByteArray) (hl : l.size ≤ 1000) (hr : r.size ≤ 1000) (hk : KAt w) : Calls Tryz.prog 259 #[.string l, .string r] w fun e w' => e = .returned (.string (dN l r)) ∧ Fr No w w' := by
  have H := Lib.hid (And.intro (node_bytes w l r hl hr) hk)
  have hlen : (nodeB l r).length ≤ 10000 := by unfold nodeB; rw [List.length_append, List.length_append, keyB_len, keyB_len]; simp; omega
  unfold dN
  obtain ⟨L, hL⟩ : ∃ L, nodeB l r = L := ⟨_, rfl⟩
  rw [hL] at H hlen ⊢
  clear hL hk hl hr
  go_enter Tryz.func259, Tryz.ntmps259
  go_wp2_with fail
  refine H.out.1.mono ?_
  rintro e w1 ⟨A, c, rfl, hO, hf⟩
  have HS := Lib.hid (And.intro (sum_ok (c := c) hO.rd.2.2 (H.out.2.fr0 hf) (by omega)) hf)
  clear hO hf
  go_wp2_with fail
  refine HS.out.1.mono ?_
  rintro e w2 ⟨rfl, hf2⟩
  go_wp2_with fail
  go_ret
  exact ⟨rfl, HS.out.2.trans (hf2.mono fun _ _ f => f.elim)⟩
set_option maxHeartbeats 1000000 in
set_option maxRecDepth 100000 in
theorem mark_leaf {w : World} {F : Nat → Prop} {A : Option Addr} {c : Nat} {row : Bs} (key : ByteArray) (h : Rd Ty.u8 w F A row) (hky : key.size ≤ 1000) (hr : row.length ≤ 100000) (hk : KAt w) :
    Calls Tryz.prog 230 #[.string key, .slice A row.length c] w fun e w' => e = .returned (.string (dL (key, row))) ∧ Fr No w w' := by
  have H := Lib.hid (And.intro (leaf_bytes (c := c) key h hky hr) hk)
  have hlen : (leafB key row).length ≤ 1000000 := by unfold leafB; rw [List.length_append, List.length_append, List.length_append, keyB_len, beN_len]; simp; omega
  unfold dL
  dsimp only
  obtain ⟨L, hL⟩ : ∃ L, leafB key row = L := ⟨_, rfl⟩
  rw [hL] at H hlen ⊢
  clear hL hk hky hr h
  go_enter Tryz.func230, Tryz.ntmps230
  go_wp2_with fail
  refine H.out.1.mono ?_
  rintro e w1 ⟨A, c, rfl, hO, hf⟩
  have HS := Lib.hid (And.intro (sum_ok (c := c) hO.rd.2.2 (H.out.2.fr0 hf) (by omega)) hf)
  clear hO hf
  go_wp2_with fail
  refine HS.out.1.mono ?_
  rintro e w2 ⟨rfl, hf2⟩
  go_wp2_with fail
  go_ret
  exact ⟨rfl, HS.out.2.trans (hf2.mono fun _ _ f => f.elim)⟩

/-! ### The small methods -/
set_option maxHeartbeats 1000000 in
theorem dig_ok {B : Nat → Prop} {w : World} {v : Value} {t : Tr} (h : NodeAt B w v t) (hk : KAt w) : Calls Tryz.prog 131 #[v] w fun e w' => e = .returned (.string (digT t)) ∧ Fr No w w' := by
  have hcell : t.isNil = false → ∃ b, v = .pointer (some ⟨b, 0, none⟩) ∧ w.cell? ⟨b, 5, none⟩ = some (.string (digT t)) := by
    intro hn
    cases t with
    | nil => cases hn
    | leaf k r => obtain ⟨b, A, c, h1, _, h3, _⟩ := h; exact ⟨b, h1, blk_cell h3 5⟩
    | node l r => obtain ⟨b, vl, vr, h1, _, h3, _⟩ := h; exact ⟨b, h1, blk_cell h3 5⟩
  cases hn : t.isNil with
  | true =>
    obtain rfl := h.nil_iff.2 hn
    have e : digT t = dE := by cases t <;> first | rfl | cases hn
    rw [e]
    have H := Lib.hid (mark_empty hk)
    clear hcell h hn hk e
    go_enter Tryz.func131, Tryz.ntmps131
    go_wp2_with fail
    refine H.out.mono ?_
    rintro e w1 ⟨rfl, hf⟩
    go_wp2_with fail
    go_ret
    exact ⟨rfl, hf⟩
  | false =>
    obtain ⟨b, rfl, hc⟩ := hcell hn
    clear hcell h hn hk
    obtain ⟨d, hd⟩ : ∃ d, digT t = d := ⟨_, rfl⟩
    rw [hd] at hc ⊢
    clear hd
    go_enter Tryz.func131, Tryz.ntmps131
    go_wp2_with fail
    go_ret
    exact ⟨rfl, Fr.refl _ _⟩
set_option maxHeartbeats 1000000 in
theorem len_ok {B : Nat → Prop} {w : World} {v : Value} {t : Tr} (h : NodeAt B w v t) : Calls Tryz.prog 258 #[v] w fun e w' => e = .returned (.int .i64 (t.len : Int)) ∧ w' = w := by
  have hcell : t.isNil = false → ∃ b, v = .pointer (some ⟨b, 0, none⟩) ∧ w.cell? ⟨b, 6, none⟩ = some (.int .i64 (t.len : Int)) := by
    intro hn
    cases t with
    | nil => cases hn
    | leaf k r => obtain ⟨b, A, c, h1, _, h3, _⟩ := h; exact ⟨b, h1, blk_cell h3 6⟩
    | node l r => obtain ⟨b, vl, vr, h1, _, h3, _⟩ := h; exact ⟨b, h1, blk_cell h3 6⟩
  cases hn : t.isNil with
  | true =>
    obtain rfl := h.nil_iff.2 hn
    have e : t.len = 0 := by cases t <;> first | rfl | cases hn
    rw [e]
    clear hcell h hn e
    go_enter Tryz.func258, Tryz.ntmps258
    go_wp2_with fail
    go_ret
    exact ⟨rfl, rfl⟩
  | false =>
    obtain ⟨b, rfl, hc⟩ := hcell hn
    clear hcell h hn
    obtain ⟨d, hd⟩ : ∃ d : Int, (t.len : Int) = d := ⟨_, rfl⟩
    rw [hd] at hc ⊢
    clear hd
    go_enter Tryz.func258, Tryz.ntmps258
    go_wp2_with fail
    go_ret
    exact ⟨rfl, rfl⟩
theorem single_nil (w : World) : Calls Tryz.prog 125 #[.pointer none] w fun e w' => e = .returned (.bool false) ∧ w' = w := by
  go_enter Tryz.func125, Tryz.ntmps125
  go_wp2_with fail
  go_ret
  exact ⟨rfl, rfl⟩
theorem single_leaf {w : World} {b : Nat} {p : ByteArray} (hc : w.cell? ⟨b, 2, none⟩ = some (.string p)) (hp : p.size = 32) : Calls Tryz.prog 125 #[.pointer (some ⟨b, 0, none⟩)] w fun e w' => e = .returned (.bool true) ∧ w' = w := by
  have hne : p.toList ≠ [] := by rw [toList_data]; intro e; have : p.data.toList.length = 0 := by rw [e]; rfl
                                 simp at this; rw [this] at hp; simp at hp
  have h1 : p.toList.isEmpty = false := by cases h : p.toList with | nil => exact absurd h hne | cons _ _ => rfl
  clear hp
  go_enter Tryz.func125, Tryz.ntmps125
  go_wp2_with fail
  go_ret
  exact ⟨rfl, rfl⟩
theorem single_node {w : World} {b : Nat} (hc : w.cell? ⟨b, 2, none⟩ = some (.string ⟨#[]⟩)) : Calls Tryz.prog 125 #[.pointer (some ⟨b, 0, none⟩)] w fun e w' => e = .returned (.bool false) ∧ w' = w := by
  go_enter Tryz.func125, Tryz.ntmps125
  go_wp2_with fail
  go_ret
  exact ⟨rfl, rfl⟩
theorem single_ok {B : Nat → Prop} {w : World} {v : Value} {t : Tr} (h : NodeAt B w v t) : Calls Tryz.prog 125 #[v] w fun e w' => e = .returned (.bool t.single) ∧ w' = w := by
  cases t with
  | nil => obtain rfl : v = _ := h; exact single_nil w
  | leaf k r => obtain ⟨b, A, c, rfl, _, h3, _⟩ := h; exact single_leaf (blk_cell h3 2) (sha_size _)
  | node l r => obtain ⟨b, vl, vr, rfl, _, h3, _⟩ := h; exact single_node (blk_cell h3 2)

set_option maxHeartbeats 2000000 in
set_option maxRecDepth 100000 in
theorem leaf_ok {B : Nat → Prop} {w : World} {F : Nat → Prop} {A : Option Addr} {c : Nat} {row : Bs} (key : ByteArray) (h : Rd Ty.u8 w F A row) (hky : key.size ≤ 1000) (hr : row.length ≤ 100000) (hk : KAt w) (hB : ∀ i, w.heap.size ≤ i → B i) :
    Calls Tryz.prog 198 #[.string key, .slice A row.length c] w fun e w' => ∃ v, e = .returned v ∧ NodeAt B w' v (.leaf key row) ∧ Fr No w w' := by
  have kc := run_txt
  obtain ⟨W, hW⟩ : ∃ W, W = txtW w key := ⟨_, rfl⟩
  have hfW : Fr No w W := by rw [hW]; exact txt_fr _ _
  have hs := sum_ok (w := W) (c := txtC w key) (txt_rd' (w := w) (s := key) (by rw [← hW]; exact Fr.refl No W) (by omega)) (hk.fr0 hfW) (by rw [keyB_len]; omega)
  rw [keyB_len, hW] at hs
  have H := Lib.hid (And.intro hs (And.intro (hW ▸ hfW) (And.intro h (And.intro hk hB))))
  have hr2 := Lib.hid (And.intro hky hr)
  clear hs hfW h hk hB hW hky hr
  go_enter Tryz.func198, Tryz.ntmps198
  go_wp2_with fail
  refine H.out.1.mono ?_
  rintro e w1 ⟨rfl, hf1⟩
  have H1 := Lib.hid (H.out.2.1.trans (hf1.mono fun _ _ f => f.elim))
  have HC := Lib.hid (clone_ok (c := c) (H.out.2.2.1.fr0 H1.out) rfl (by have := hr2.out; omega))
  clear hf1
  go_wp2_with fail
  refine HC.out.mono ?_
  rintro e w2 ⟨A2, c2, rfl, hO, hf2⟩
  have H2 := Lib.hid (And.intro hO (H1.out.trans (hf2.mono fun _ _ f => f.elim)))
  have HL := Lib.hid (mark_leaf (c := c) key (H.out.2.2.1.fr0 H2.out.2) hr2.out.1 hr2.out.2 (H.out.2.2.2.1.fr0 H2.out.2))
  clear hO hf2
  go_wp2_with fail
  refine HL.out.mono ?_
  rintro e w3 ⟨rfl, hf3⟩
  have H3 := Lib.hid (And.intro (H2.out.1.fr0 hf3) (H2.out.2.trans (hf3.mono fun _ _ f => f.elim)))
  have hsz := Lib.hid (Nat.le_trans H2.out.2.size hf3.size)
  clear hf3
  go_wp2_with fail
  go_ret
  have hfa : Fr No w3 (w3.alloc (.cells #[.pointer none, .pointer none, .string (sha (keyB key)), .string key, .slice A2 row.length c2, .string (dL (key, row)), .int .i64 1] 205)) := (Fr.refl No w3).alloc _
  refine ⟨_, rfl, ⟨w3.heap.size, A2, c2, rfl, H.out.2.2.2.2 _ (by have := hsz.out; omega), heap_alloc_new w3 _, (H3.out.1.rd.2.2.fr0 hfa).mono fun i hi _ => ?_⟩, H3.out.2.alloc _⟩
  exact H.out.2.2.2.2 i (by have := H1.out.size; omega)

/-! ### Two halves -/
theorem len_nil (w : World) : Calls Tryz.prog 258 #[.pointer none] w fun e w' => e = .returned (.int .i64 0) ∧ w' = w := by
  have := len_ok (B := fun _ => True) (w := w) (v := .pointer none) (t := .nil) rfl
  simpa [Tr.len] using this
theorem join_nil_nil (w : World) : Calls Tryz.prog 249 #[.pointer none, .pointer none] w fun e w' => e = .returned (.pointer none) ∧ w' = w := by
  have HL := Lib.hid len_nil
  have HS := Lib.hid single_nil
  go_enter Tryz.func249, Tryz.ntmps249
  go_wp2_with (first
    | (go_at_call 258; refine (HL.out _).mono ?_; rintro e w' ⟨rfl, rfl⟩)
    | (go_at_call 125; refine (HS.out _).mono ?_; rintro e w' ⟨rfl, rfl⟩))
  go_ret
  exact ⟨rfl, rfl⟩
theorem join_nil_leaf {B : Nat → Prop} {w : World} {b : Nat} {t : Tr} (h : NodeAt B w (.pointer (some ⟨b, 0, none⟩)) t) (hs : t.single = true) : Calls Tryz.prog 249 #[.pointer none, .pointer (some ⟨b, 0, none⟩)] w fun e w' => e = .returned (.pointer (some ⟨b, 0, none⟩)) ∧ w' = w := by
  have HL := Lib.hid len_nil
  have HR := Lib.hid (len_ok h)
  have HS := single_ok h
  have hl : t.len = 1 := by cases t <;> first | rfl | cases hs
  rw [hs] at HS
  rw [hl] at HR
  have HS := Lib.hid HS
  clear h hs hl
  go_enter Tryz.func249, Tryz.ntmps249
  go_wp2_with fail
  refine (HL.out _).mono ?_; rintro e w' ⟨rfl, rfl⟩
  go_wp2_with fail
  refine HR.out.mono ?_; rintro e w' ⟨rfl, rfl⟩
  go_wp2_with fail
  refine HS.out.mono ?_; rintro e w' ⟨rfl, rfl⟩
  go_wp2_with fail
  go_ret
  exact ⟨rfl, rfl⟩
theorem join_leaf_nil {B : Nat → Prop} {w : World} {b : Nat} {t : Tr} (h : NodeAt B w (.pointer (some ⟨b, 0, none⟩)) t) (hs : t.single = true) : Calls Tryz.prog 249 #[.pointer (some ⟨b, 0, none⟩), .pointer none] w fun e w' => e = .returned (.pointer (some ⟨b, 0, none⟩)) ∧ w' = w := by
  have HL := Lib.hid len_nil
  have HR := Lib.hid (len_ok h)
  have HS := single_ok h
  have hl : t.len = 1 := by cases t <;> first | rfl | cases hs
  rw [hs] at HS
  rw [hl] at HR
  have HS := Lib.hid HS
  clear h hs hl
  go_enter Tryz.func249, Tryz.ntmps249
  go_wp2_with fail
  refine HR.out.mono ?_; rintro e w' ⟨rfl, rfl⟩
  go_wp2_with fail
  refine (HL.out _).mono ?_; rintro e w' ⟨rfl, rfl⟩
  go_wp2_with fail
  refine HS.out.mono ?_; rintro e w' ⟨rfl, rfl⟩
  go_wp2_with fail
  go_ret
  exact ⟨rfl, rfl⟩
/-- A node's cells. -/
theorem join_tail {B : Nat → Prop} {w w2 : World} {vl vr : Value} {l r : Tr} (hl : NodeAt B w vl l) (hr : NodeAt B w vr r) (hf : Fr No w w2) (hB : ∀ i, w.heap.size ≤ i → B i) :
    NodeAt B (w2.alloc (.cells #[vl, vr, .string ⟨#[]⟩, .string ⟨#[]⟩, .slice none 0 0, .string (dN (digT l) (digT r)), .int .i64 ((l.len : Int) + (r.len : Int))] 205)) (.pointer (some ⟨w2.heap.size, 0, none⟩)) (.node l r) := by
  have hfa : Fr No w (w2.alloc (.cells #[vl, vr, .string ⟨#[]⟩, .string ⟨#[]⟩, .slice none 0 0, .string (dN (digT l) (digT r)), .int .i64 ((l.len : Int) + (r.len : Int))] 205)) := hf.alloc _
  refine ⟨w2.heap.size, vl, vr, rfl, hB _ hf.size, ?_, hl.fr0 hfa, hr.fr0 hfa⟩
  rw [heap_alloc_new, Int.natCast_add]
  rfl
set_option maxHeartbeats 2000000 in
set_option maxRecDepth 100000 in
/-- Whatever is not one of the above: a new node. -/
theorem join_node {B : Nat → Prop} {w : World} {vl vr : Value} {l r : Tr} (hl : NodeAt B w vl l) (hr : NodeAt B w vr r) (hk : KAt w) (hB : ∀ i, w.heap.size ≤ i → B i)
    (h1 : l.isNil = true → r.isNil = false ∧ r.single = false) (h2 : r.isNil = true → l.isNil = false ∧ l.single = false) (h3 : 0 < l.len + r.len) (h4 : l.len + r.len ≤ 1000000) :
    Calls Tryz.prog 249 #[vl, vr] w fun e w' => ∃ v, e = .returned v ∧ NodeAt B w' v (.node l r) ∧ Fr No w w' := by
  have HL := Lib.hid (len_ok hl)
  have HR := Lib.hid (len_ok hr)
  have hsr := single_ok hr
  have hsl := single_ok hl
  have i1 : (0 : Int) < (l.len : Int) + (r.len : Int) := by omega
  have i2 : (l.len : Int) + (r.len : Int) ≤ 1000000 := by omega
  have i3 : (0 : Int) ≤ (l.len : Int) := Int.natCast_nonneg _
  have i4 : (0 : Int) ≤ (r.len : Int) := Int.natCast_nonneg _
  have i5 : (((l.len : Int) + (r.len : Int)) == 0) = false := beq_eq_false_iff_ne.2 (by omega)
  have HD := Lib.hid (dig_ok hl hk)
  have HT := Lib.hid fun (w1 : World) (f : Fr No w w1) => join_tail hl hr f hB
  have HE := Lib.hid fun (w1 : World) (f : Fr No w w1) => dig_ok (hr.fr0 f) (hk.fr0 f)
  have HM := Lib.hid fun (w1 : World) (f : Fr No w w1) => mark_node (digT l) (digT r) (by rw [digT_size]; decide) (by rw [digT_size]; decide) (hk.fr0 f)
  obtain ⟨ll, hll⟩ : ∃ ll : Int, (l.len : Int) = ll := ⟨_, rfl⟩
  obtain ⟨lr, hlr⟩ : ∃ lr : Int, (r.len : Int) = lr := ⟨_, rfl⟩
  rw [hll, hlr] at i1 i2 i5
  rw [hll] at i3 HL
  rw [hlr] at i4 HR
  rw [hll, hlr] at HT
  have close : ∀ (P : Prop), P → P := fun _ h => h
  cases hnl : l.isNil with
  | true =>
    obtain ⟨hrn, hrs⟩ := h1 hnl
    obtain rfl := hl.nil_iff.2 hnl
    obtain ⟨b, rfl⟩ := hr.ptr hrn
    rw [hrs] at hsr
    have HS := Lib.hid hsr
    clear hsr hsl hl hr h1 h2 h3 h4 hll hlr hnl hrn hrs hk hB close
    go_enter Tryz.func249, Tryz.ntmps249
    go_wp2_with fail
    refine HL.out.mono ?_; rintro e w' ⟨rfl, rfl⟩
    go_wp2_with fail
    refine HR.out.mono ?_; rintro e w' ⟨rfl, rfl⟩
    go_wp2_with fail
    refine HS.out.mono ?_; rintro e w' ⟨rfl, rfl⟩
    go_wp2_with fail
    refine HD.out.mono ?_; rintro e w1 ⟨rfl, f1⟩
    have HF1 := Lib.hid f1
    clear f1
    go_wp2_with fail
    refine (HE.out _ HF1.out).mono ?_; rintro e w2 ⟨rfl, f2⟩
    have HF2 := Lib.hid (HF1.out.trans (f2.mono fun _ _ f => f.elim))
    clear f2
    go_wp2_with fail
    refine (HM.out _ HF2.out).mono ?_; rintro e w3 ⟨rfl, f3⟩
    have HF3 := Lib.hid (HF2.out.trans (f3.mono fun _ _ f => f.elim))
    clear f3
    go_wp2_with fail
    go_ret
    exact ⟨_, rfl, HT.out _ HF3.out, HF3.out.alloc _⟩
  | false =>
    obtain ⟨a, rfl⟩ := hl.ptr hnl
    cases hnr : r.isNil with
    | true =>
      obtain ⟨_, hls⟩ := h2 hnr
      obtain rfl := hr.nil_iff.2 hnr
      rw [hls] at hsl
      have HS := Lib.hid hsl
      clear hsr hsl hl hr h1 h2 h3 h4 hll hlr hnl hnr hls hk hB close
      go_enter Tryz.func249, Tryz.ntmps249
      go_wp2_with fail
      refine HL.out.mono ?_; rintro e w' ⟨rfl, rfl⟩
      go_wp2_with fail
      refine HR.out.mono ?_; rintro e w' ⟨rfl, rfl⟩
      go_wp2_with fail
      refine HS.out.mono ?_; rintro e w' ⟨rfl, rfl⟩
      go_wp2_with fail
      refine HD.out.mono ?_; rintro e w1 ⟨rfl, f1⟩
      have HF1 := Lib.hid f1
      clear f1
      go_wp2_with fail
      refine (HE.out _ HF1.out).mono ?_; rintro e w2 ⟨rfl, f2⟩
      have HF2 := Lib.hid (HF1.out.trans (f2.mono fun _ _ f => f.elim))
      clear f2
      go_wp2_with fail
      refine (HM.out _ HF2.out).mono ?_; rintro e w3 ⟨rfl, f3⟩
      have HF3 := Lib.hid (HF2.out.trans (f3.mono fun _ _ f => f.elim))
      clear f3
      go_wp2_with fail
      go_ret
      exact ⟨_, rfl, HT.out _ HF3.out, HF3.out.alloc _⟩
    | false =>
      obtain ⟨b, rfl⟩ := hr.ptr hnr
      clear hsr hsl hl hr h1 h2 h3 h4 hll hlr hnl hnr hk hB close
      go_enter Tryz.func249, Tryz.ntmps249
      go_wp2_with fail
      refine HL.out.mono ?_; rintro e w' ⟨rfl, rfl⟩
      go_wp2_with fail
      refine HR.out.mono ?_; rintro e w' ⟨rfl, rfl⟩
      go_wp2_with fail
      refine HD.out.mono ?_; rintro e w1 ⟨rfl, f1⟩
      have HF1 := Lib.hid f1
      clear f1
      go_wp2_with fail
      refine (HE.out _ HF1.out).mono ?_; rintro e w2 ⟨rfl, f2⟩
      have HF2 := Lib.hid (HF1.out.trans (f2.mono fun _ _ f => f.elim))
      clear f2
      go_wp2_with fail
      refine (HM.out _ HF2.out).mono ?_; rintro e w3 ⟨rfl, f3⟩
      have HF3 := Lib.hid (HF2.out.trans (f3.mono fun _ _ f => f.elim))
      clear f3
      go_wp2_with fail
      go_ret
      exact ⟨_, rfl, HT.out _ HF3.out, HF3.out.alloc _⟩
/-- Nodes have keys. -/
def Tr.Full : Tr → Prop
  | .nil => True
  | .leaf _ _ => True
  | .node l r => l.Full ∧ r.Full ∧ 0 < l.len + r.len
theorem Tr.Full.pos {t : Tr} (h : t.Full) (hn : t.isNil = false) : 0 < t.len := by
  cases t with
  | nil => cases hn
  | leaf _ _ => exact Nat.one_pos
  | node l r => exact h.2.2
theorem Tr.Full.join {l r : Tr} (hl : l.Full) (hr : r.Full) : (Tr.join l r).Full := by
  unfold Tr.join
  split
  · exact hr
  · split
    · exact hl
    · split
      · trivial
      · exact ⟨hl, hr, by omega⟩
theorem Tr.join_len (l r : Tr) (hl : l.Full) (hr : r.Full) : (Tr.join l r).len = l.len + r.len := by
  unfold Tr.join
  split
  · rename_i h
    simp only [Bool.and_eq_true] at h
    have : l.len = 0 := by cases l <;> first | rfl | cases h.1
    omega
  · split
    · rename_i h
      simp only [Bool.and_eq_true] at h
      have : r.len = 0 := by cases r <;> first | rfl | cases h.1
      omega
    · split
      · rename_i h; rw [h]; rfl
      · rfl
theorem join_ok {B : Nat → Prop} {w : World} {vl vr : Value} {l r : Tr} (hl : NodeAt B w vl l) (hr : NodeAt B w vr r) (hk : KAt w) (hB : ∀ i, w.heap.size ≤ i → B i) (fl : l.Full) (fr : r.Full) (h4 : l.len + r.len ≤ 1000000) :
    Calls Tryz.prog 249 #[vl, vr] w fun e w' => ∃ v, e = .returned v ∧ NodeAt B w' v (Tr.join l r) ∧ Fr No w w' := by
  unfold Tr.join
  by_cases c1 : (l.isNil && r.single) = true
  · rw [if_pos c1]
    simp only [Bool.and_eq_true] at c1
    obtain rfl := hl.nil_iff.2 c1.1
    obtain ⟨b, rfl⟩ := hr.ptr (by cases r <;> first | rfl | cases c1.2)
    refine (join_nil_leaf hr c1.2).mono ?_
    rintro e w' ⟨rfl, rfl⟩
    exact ⟨_, rfl, hr, Fr.refl _ _⟩
  · rw [if_neg c1]
    by_cases c2 : (r.isNil && l.single) = true
    · rw [if_pos c2]
      simp only [Bool.and_eq_true] at c2
      obtain rfl := hr.nil_iff.2 c2.1
      obtain ⟨b, rfl⟩ := hl.ptr (by cases l <;> first | rfl | cases c2.2)
      refine (join_leaf_nil hl c2.2).mono ?_
      rintro e w' ⟨rfl, rfl⟩
      exact ⟨_, rfl, hl, Fr.refl _ _⟩
    · rw [if_neg c2]
      by_cases c3 : l.len + r.len = 0
      · rw [if_pos c3]
        have nl : l.isNil = true := by
          cases h : l.isNil with
          | true => rfl
          | false => have := fl.pos h; omega
        have nr : r.isNil = true := by
          cases h : r.isNil with
          | true => rfl
          | false => have := fr.pos h; omega
        obtain rfl := hl.nil_iff.2 nl
        obtain rfl := hr.nil_iff.2 nr
        refine (join_nil_nil w).mono ?_
        rintro e w' ⟨rfl, rfl⟩
        exact ⟨_, rfl, rfl, Fr.refl _ _⟩
      · rw [if_neg c3]
        refine join_node hl hr hk hB (fun h => ?_) (fun h => ?_) (by omega) h4
        · rw [h, Bool.true_and] at c1
          refine ⟨?_, by simpa using c1⟩
          cases hr' : r.isNil with
          | false => rfl
          | true =>
            exfalso; apply c3
            have : l.len = 0 := by cases l <;> first | rfl | cases h
            have : r.len = 0 := by cases r <;> first | rfl | cases hr'
            omega
        · rw [h, Bool.true_and] at c2
          refine ⟨?_, by simpa using c2⟩
          cases hl' : l.isNil with
          | false => rfl
          | true =>
            exfalso; apply c3
            have : l.len = 0 := by cases l <;> first | rfl | cases hl'
            have : r.len = 0 := by cases r <;> first | rfl | cases h
            omega
end Go.Proofs.YtlmhphejgahfbaaGreatDoor
/- slices.Concat of four. -/
set_option linter.unusedVariables false
set_option linter.unusedSimpArgs false
namespace Go.Proofs.YtlmhphejgahfbaaGreatDoor
open Go.RowKit

set_option maxHeartbeats 2000000 in
set_option maxRecDepth 100000 in
theorem concat4 {w : World} {g : Nat} {tt : TypeId} {A1 A2 A3 B4 : Option Addr} {c1 c2 c3 d4 : Nat} {x y z u : Bs} (hb : w.heap[g]? = some (.cells #[.slice A1 x.length c1, .slice A2 y.length c2, .slice A3 z.length c3, .slice B4 u.length d4] tt (0, 0)))
    (h1 : Rd Ty.u8 w (fun _ => True) A1 x) (h2 : Rd Ty.u8 w (fun _ => True) A2 y) (h3 : Rd Ty.u8 w (fun _ => True) A3 z) (h4 : Rd Ty.u8 w (fun _ => True) B4 u) (hl : x.length + y.length + z.length + u.length ≤ 1000000000) :
    Calls Tryz.prog 127 #[.slice (some ⟨g, 0, none⟩) 4 4] w fun e w' => ∃ A c, e = .returned (.slice A (x ++ y ++ z ++ u).length c) ∧ Ow Ty.u8 5 w' (fun i => w.heap.size ≤ i) (.slice A (x ++ y ++ z ++ u).length c) (x ++ y ++ z ++ u) ∧ Fr No w w' := by
  have k0 := blk_cell hb 0
  have k1 := blk_cell hb 1
  have k2 := blk_cell hb 2
  have k3 := blk_cell hb 3
  simp at k0 k1 k2 k3
  have n1 : (x.length : Int) ≤ 1000000000 := by omega
  have n2 : (y.length : Int) ≤ 1000000000 := by omega
  have n3 : (z.length : Int) ≤ 1000000000 := by omega
  have n4 : (u.length : Int) ≤ 1000000000 := by omega
  have HG := Lib.hid (fun w => grow_ok w ((x.length : Int) + (y.length : Int) + (z.length : Int) + (u.length : Int)) (by omega) (by omega))
  have HH := Lib.hid (And.intro h1 (And.intro h2 (And.intro h3 (And.intro h4 (And.intro hl hb)))))
  clear h1 h2 h3 h4 hl hb
  have e1 : (x ++ y ++ z ++ u).length = x.length + y.length + z.length + u.length := by rw [List.length_append, List.length_append, List.length_append]
  rw [e1]
  clear e1
  go_enter Tryz.func127, Tryz.ntmps127
  go_wp2_with fail
  refine wp_loop_rounds 5 ?_
  rw [rounds_succ]
  go_wp2_with fail
  rw [rounds_succ]
  go_wp2_with fail
  rw [rounds_succ]
  go_wp2_with fail
  rw [rounds_succ]
  go_wp2_with fail
  rw [rounds_succ]
  go_wp2_with fail
  refine (HG.out _).mono ?_
  rintro e1 w1 ⟨A0, c0, rfl, hO, hf⟩
  have k0 := hf.cell k0 (fun f => f)
  have k1 := hf.cell k1 (fun f => f)
  have k2 := hf.cell k2 (fun f => f)
  have k3 := hf.cell k3 (fun f => f)
  have H0 := Lib.hid (And.intro hO hf)
  clear hO hf
  go_wp2_with fail
  refine wp_loop_rounds 5 ?_
  rw [rounds_succ]
  obtain ⟨cs1, hrow1, hat1⟩ := (HH.out.1.fr0 H0.out.2).at
  obtain ⟨A4, c4, w4, hrun4, hO4, hg4, _⟩ := run_ow_append (P := Tryz.prog) (ty := 46) (ty' := 46) Ty.u8 H0.out.1 (.int .u8 0) 1 Tryz.underlying46 info_u8 rfl (by decide) (by decide) c1 (ys := x) (hrow1.imp fun _ _ h => h) hat1 (by have := HH.out.2.2.2.2.1; simp; omega)
  simp only [List.length_nil, Nat.zero_add, List.nil_append] at hrun4 hO4
  have hf4 : Fr No w w4 := H0.out.2.grown hg4 fun k hk => .inr (H0.out.1.own hk).1
  have hO4' : Ow Ty.u8 5 w4 (fun i => w.heap.size ≤ i) (.slice A4 x.length c4) x := hO4.mono fun i hi _ => by have := H0.out.2.size; rcases hi with h | h <;> omega
  have k0' := hf4.cell (blk_cell HH.out.2.2.2.2.2 0) (fun f => f)
  have H4 := Lib.hid (And.intro hO4' hf4)
  clear hO4 hO4' hf4 hg4 hrow1 hat1 k0'
  go_wp2_with (at_builtin; refine wpList_plain rfl fun K hK => wp_append_run _ _ _ _ rfl rfl rfl hrun4 (hK _ _ ?_))
  clear hrun4
  have k1 := H4.out.2.cell (blk_cell HH.out.2.2.2.2.2 1) (fun f => f)
  simp at k1
  rw [rounds_succ]
  obtain ⟨cs2, hrow2, hat2⟩ := (HH.out.2.1.fr0 H4.out.2).at
  obtain ⟨A5, c5, w5, hrun5, hO5, hg5, _⟩ := run_ow_append (P := Tryz.prog) (ty := 46) (ty' := 46) Ty.u8 H4.out.1 (.int .u8 0) 1 Tryz.underlying46 info_u8 rfl (by decide) (by decide) c2 (ys := y) (hrow2.imp fun _ _ h => h) hat2 (by have := HH.out.2.2.2.2.1; omega)
  have hf5 : Fr No w w5 := H4.out.2.grown hg5 fun k hk => .inr (H4.out.1.own hk).1
  have hO5' : Ow Ty.u8 5 w5 (fun i => w.heap.size ≤ i) (.slice A5 (x.length + y.length) c5) (x ++ y) := hO5.mono fun i hi _ => by have := H4.out.2.size; rcases hi with h | h <;> omega
  have H5 := Lib.hid (And.intro hO5' hf5)
  clear hO5 hO5' hf5 hg5 hrow2 hat2
  go_wp2_with (at_builtin; refine wpList_plain rfl fun K hK => wp_append_run _ _ _ _ rfl rfl rfl hrun5 (hK _ _ ?_))
  clear hrun5
  have k2 := H5.out.2.cell (blk_cell HH.out.2.2.2.2.2 2) (fun f => f)
  simp at k2
  rw [rounds_succ]
  obtain ⟨cs3, hrow3, hat3⟩ := (HH.out.2.2.1.fr0 H5.out.2).at
  obtain ⟨A6, c6, w6, hrun6, hO6, hg6, _⟩ := run_ow_append (P := Tryz.prog) (ty := 46) (ty' := 46) Ty.u8 H5.out.1 (.int .u8 0) 1 Tryz.underlying46 info_u8 rfl (by decide) (by decide) c3 (ys := z) (hrow3.imp fun _ _ h => h) hat3 (by have := HH.out.2.2.2.2.1; rw [List.length_append]; omega)
  rw [List.length_append] at hrun6 hO6
  have hf6 : Fr No w w6 := H5.out.2.grown hg6 fun k hk => .inr (H5.out.1.own hk).1
  have hO6' : Ow Ty.u8 5 w6 (fun i => w.heap.size ≤ i) (.slice A6 (x.length + y.length + z.length) c6) (x ++ y ++ z) := hO6.mono fun i hi _ => by have := H5.out.2.size; rcases hi with h | h <;> omega
  have H6 := Lib.hid (And.intro hO6' hf6)
  clear hO6 hO6' hf6 hg6 hrow3 hat3
  go_wp2_with (at_builtin; refine wpList_plain rfl fun K hK => wp_append_run _ _ _ _ rfl rfl rfl hrun6 (hK _ _ ?_))
  clear hrun6
  have k3 := H6.out.2.cell (blk_cell HH.out.2.2.2.2.2 3) (fun f => f)
  simp at k3
  rw [rounds_succ]
  obtain ⟨cs4, hrow4, hat4⟩ := (HH.out.2.2.2.1.fr0 H6.out.2).at
  obtain ⟨A7, c7, w7, hrun7, hO7, hg7, _⟩ := run_ow_append (P := Tryz.prog) (ty := 46) (ty' := 46) Ty.u8 H6.out.1 (.int .u8 0) 1 Tryz.underlying46 info_u8 rfl (by decide) (by decide) d4 (ys := u) (hrow4.imp fun _ _ h => h) hat4 (by have := HH.out.2.2.2.2.1; rw [List.length_append, List.length_append]; omega)
  rw [List.length_append, List.length_append] at hrun7 hO7
  have hf7 : Fr No w w7 := H6.out.2.grown hg7 fun k hk => .inr (H6.out.1.own hk).1
  have hO7' : Ow Ty.u8 5 w7 (fun i => w.heap.size ≤ i) (.slice A7 (x.length + y.length + z.length + u.length) c7) (x ++ y ++ z ++ u) := hO7.mono fun i hi _ => by have := H6.out.2.size; rcases hi with h | h <;> omega
  have H7 := Lib.hid (And.intro hO7' hf7)
  clear hO7 hO7' hf7 hg7 hrow4 hat4
  go_wp2_with (at_builtin; refine wpList_plain rfl fun K hK => wp_append_run _ _ _ _ rfl rfl rfl hrun7 (hK _ _ ?_))
  clear hrun7
  rw [rounds_succ]
  go_wp2_with fail
  go_ret
  exact ⟨A7, c7, rfl, H7.out.1, H7.out.2⟩
end Go.Proofs.YtlmhphejgahfbaaGreatDoor
/- mark: Empty, LinkBytes, Link; ledger.First. -/
set_option linter.unusedVariables false
set_option linter.unusedSimpArgs false
namespace Go.Proofs.YtlmhphejgahfbaaGreatDoor
open Go.RowKit

/-- What a link's digest is made of. -/
def linkB (a b c : ByteArray) : Bs := [3] ++ keyB a ++ keyB b ++ keyB c
set_option maxHeartbeats 1000000 in
set_option maxRecDepth 100000 in
theorem link_bytes (w : World) (l r s : ByteArray) (hl : l.size ≤ 1000) (hr : r.size ≤ 1000) (hs : s.size ≤ 1000) :
    Calls Tryz.prog 154 #[.string l, .string r, .string s] w fun e w' => ∃ A c, e = .returned (.slice A (linkB l r s).length c) ∧ Ow Ty.u8 5 w' (fun i => w.heap.size ≤ i) (.slice A (linkB l r s).length c) (linkB l r s) ∧ Fr No w w' := by
  have kc := run_txt
  obtain ⟨W1, hW1⟩ : ∃ W1, W1 = w.alloc (.cells #[.int .u8 3] 5) := ⟨_, rfl⟩
  have hs1 : W1.heap.size = w.heap.size + 1 := by rw [hW1]; simp
  have hf1 : Fr No w W1 := by rw [hW1]; exact (Fr.refl No w).alloc _
  obtain ⟨W2, hW2⟩ : ∃ W2, W2 = txtW W1 l := ⟨_, rfl⟩
  have hf2 : Fr No W1 W2 := by rw [hW2]; exact txt_fr _ _
  obtain ⟨W3, hW3⟩ : ∃ W3, W3 = txtW W2 r := ⟨_, rfl⟩
  have hf3 : Fr No W2 W3 := by rw [hW3]; exact txt_fr _ _
  obtain ⟨W4, hW4⟩ : ∃ W4, W4 = txtW W3 s := ⟨_, rfl⟩
  have hf4 : Fr No W3 W4 := by rw [hW4]; exact txt_fr _ _
  have f34 : Fr No W2 W4 := hf3.trans (hf4.mono fun _ _ f => f.elim)
  have f24 : Fr No W1 W4 := hf2.trans (f34.mono fun _ _ f => f.elim)
  have hcc := concat4 (w := W4.alloc (.cells #[.slice (some ⟨w.heap.size, 0, none⟩) 1 1, .slice (some ⟨w.heap.size + 1, 0, none⟩) l.size (txtC W1 l), .slice (some ⟨W2.heap.size, 0, none⟩) r.size (txtC W2 r), .slice (some ⟨W3.heap.size, 0, none⟩) s.size (txtC W3 s)] 46))
    (x := [3]) (y := keyB l) (z := keyB r) (u := keyB s) (by rw [keyB_len, keyB_len, keyB_len]; exact heap_alloc_new W4 _)
    (rd_new (w := w) (t := 5) (cs := #[.int .u8 3]) (by rw [← hW1]; exact f24.alloc _) rfl (by simp))
    (by rw [← hs1]; exact txt_rd' (by rw [← hW2]; exact f34.alloc _) (by omega))
    (txt_rd' (by rw [← hW3]; exact hf4.alloc _) (by omega))
    (txt_rd' (by rw [← hW4]; exact (Fr.refl No W4).alloc _) (by omega)) (by rw [keyB_len, keyB_len, keyB_len]; simp; omega)
  have hff : Fr No w (W4.alloc (.cells #[.slice (some ⟨w.heap.size, 0, none⟩) 1 1, .slice (some ⟨w.heap.size + 1, 0, none⟩) l.size (txtC W1 l), .slice (some ⟨W2.heap.size, 0, none⟩) r.size (txtC W2 r), .slice (some ⟨W3.heap.size, 0, none⟩) s.size (txtC W3 s)] 46)) := (hf1.trans (f24.mono fun _ _ f => f.elim)).alloc _
  rw [hW4, hW3, hW2, hW1] at hcc hff
  obtain ⟨L, hL⟩ : ∃ L, linkB l r s = L := ⟨_, rfl⟩
  rw [show [3] ++ keyB l ++ keyB r ++ keyB s = linkB l r s from rfl, hL] at hcc
  rw [hL]
  clear hL
  have H := Lib.hid (And.intro hcc hff)
  clear hcc hff hW1 hW2 hW3 hW4 hs1 hf1 hf2 hf3 hf4 f34 f24 hl hr hs
  go_enter Tryz.func154, Tryz.ntmps154
  go_wp2_with fail
  refine H.out.1.mono ?_
  rintro e w1 ⟨A, c, rfl, hO, hf⟩
  have H1 := Lib.hid (And.intro hO (H.out.2.trans (hf.mono fun _ _ f => f.elim)))
  have H2 := Lib.hid H.out.2.size
  clear hO hf
  go_wp2_with fail
  go_ret
  exact ⟨A, c, rfl, H1.out.1.mono fun i hi _ => Nat.le_trans H2.out hi, H1.out.2⟩

def linkD (l r : ByteArray) (p : Bs) : ByteArray := sha (linkB l r (sha p))
set_option maxHeartbeats 1000000 in
set_option maxRecDepth 100000 in
theorem link_ok {w : World} {G : Nat → Prop} {A : Option Addr} {c : Nat} {p : Bs} (l r : ByteArray) (h : Rd Ty.u8 w G A p) (hk : KAt w) (hl : l.size ≤ 1000) (hr : r.size ≤ 1000) (hp : p.length ≤ 10000000000) (hz : (sha p).size ≤ 1000) :
    Calls Tryz.prog 83 #[.string l, .string r, .slice A p.length c] w fun e w' => e = .returned (.string (linkD l r p)) ∧ Fr No w w' := by
  have h1 := sum_ok (c := c) h hk hp
  obtain ⟨s, hs⟩ : ∃ s, sha p = s := ⟨_, rfl⟩
  have hlen : (linkB l r s).length ≤ 10000000000 := by
    unfold linkB
    rw [List.length_append, List.length_append, List.length_append, keyB_len, keyB_len, keyB_len]
    rw [hs] at hz
    simp; omega
  rw [hs] at h1 hz
  have H := Lib.hid (And.intro h1 (And.intro hlen (And.intro hk (fun w : World => link_bytes w l r s hl hr hz))))
  unfold linkD
  rw [hs]
  clear h1 hlen hk hl hr hz hp h hs
  go_enter Tryz.func83, Tryz.ntmps83
  go_wp2_with fail
  refine H.out.1.mono ?_
  rintro e w1 ⟨rfl, hf1⟩
  have H1 := Lib.hid hf1
  clear hf1
  go_wp2_with fail
  refine (H.out.2.2.2 _).mono ?_
  rintro e w2 ⟨A2, c2, rfl, hO, hf2⟩
  have hfw := H1.out.trans (hf2.mono fun _ _ f => f.elim)
  have H2 := Lib.hid (And.intro (sum_ok (c := c2) hO.rd.2.2 (H.out.2.2.1.fr0 hfw) H.out.2.1) hfw)
  clear hO hf2 hfw
  go_wp2_with fail
  refine H2.out.1.mono ?_
  rintro e w3 ⟨rfl, hf3⟩
  have H3 := Lib.hid (H2.out.2.trans (hf3.mono fun _ _ f => f.elim))
  clear hf3
  go_wp2_with fail
  go_ret
  exact ⟨rfl, H3.out⟩

/-- The first digest. -/
def firstD : ByteArray := linkD dE dE []
set_option maxHeartbeats 1000000 in
set_option maxRecDepth 100000 in
theorem first_ok {w : World} (hk : KAt w) : Calls Tryz.prog 35 #[] w fun e w' => e = .returned (.string firstD) ∧ Fr No w w' := by
  have he : dE.size ≤ 1000 := by unfold dE; rw [sha_size]; decide
  have hz : (sha []).size ≤ 1000 := by rw [sha_size]; decide
  have H := Lib.hid (And.intro (fun (w1 : World) (f : Fr No w w1) => mark_empty (hk.fr0 f)) (fun (w1 : World) (f : Fr No w w1) => link_ok (G := No) (A := none) (c := 0) (p := []) dE dE Rd.nil (hk.fr0 f) he he (by simp) hz))
  clear he hz hk
  go_enter Tryz.func35, Tryz.ntmps35
  go_wp2_with fail
  refine (H.out.1 _ (Fr.refl _ _)).mono ?_
  rintro e w1 ⟨rfl, hf1⟩
  have H1 := Lib.hid hf1
  clear hf1
  go_wp2_with fail
  refine (H.out.1 _ H1.out).mono ?_
  rintro e w2 ⟨rfl, hf2⟩
  have H2 := Lib.hid (H1.out.trans (hf2.mono fun _ _ f => f.elim))
  clear hf2
  go_wp2_with fail
  refine (H.out.2 _ H2.out).mono ?_
  rintro e w3 ⟨rfl, hf3⟩
  have H3 := Lib.hid (H2.out.trans (hf3.mono fun _ _ f => f.elim))
  clear hf3
  go_wp2_with fail
  go_ret
  exact ⟨rfl, H3.out⟩
end Go.Proofs.YtlmhphejgahfbaaGreatDoor
