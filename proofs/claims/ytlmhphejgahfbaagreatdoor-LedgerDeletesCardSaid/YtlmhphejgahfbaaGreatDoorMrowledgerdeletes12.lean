/- Texts of this claim, one behind the other: TabsOk, OpenF, Spec06, Spec13, Spec14, Bit. -/
import Derived.Test.YtlmhphejgahfbaaGreatDoorMrowledgerdeletesKTabs2
import Derived.KernelRfl
import Derived.ChangeSame
import Derived.Test.YtlmhphejgahfbaaGreatDoorMrowledgerdeletes2
import Derived.Test.YtlmhphejgahfbaaGreatDoorMrowledgerdeletes3
import Derived.Test.YtlmhphejgahfbaaGreatDoorMrowledgerdeletes1
/- The tables of any forms may be. -/
set_option linter.unusedVariables false
set_option linter.unusedSimpArgs false
namespace Go.Proofs.YtlmhphejgahfbaaGreatDoor
open Go.RowKit

theorem colNames_nodup {n : Nat} (h : n ≤ 8) : ((List.range n).map nameF).Nodup := by
  have : n = 0 ∨ n = 1 ∨ n = 2 ∨ n = 3 ∨ n = 4 ∨ n = 5 ∨ n = 6 ∨ n = 7 ∨ n = 8 := by omega
  rcases this with rfl | rfl | rfl | rfl | rfl | rfl | rfl | rfl | rfl <;> decide
theorem tabNames_nodup {n : Nat} (h : n ≤ 4) : ((List.range n).map fun i => two 116 (UInt8.ofNat (48 + i))).Nodup := by
  have : n = 0 ∨ n = 1 ∨ n = 2 ∨ n = 3 ∨ n = 4 := by omega
  rcases this with rfl | rfl | rfl | rfl | rfl <;> decide
theorem kind_two (b : UInt8) : (1 + b % 2 : UInt8) = 1 ∨ (1 + b % 2 : UInt8) = 2 := by
  have h : ∀ r : UInt8, r.toNat < 2 → (1 + r = 1 ∨ 1 + r = 2) := fun r hr => by
    have h01 : r.toNat = 0 ∨ r.toNat = 1 := by omega
    rcases h01 with h | h
    · obtain rfl : r = 0 := UInt8.toNat_inj.1 h
      exact .inl (by decide)
    · obtain rfl : r = 1 := UInt8.toNat_inj.1 h
      exact .inr (by decide)
  refine h _ ?_
  rw [UInt8.toNat_mod]
  exact Nat.mod_lt _ (by decide)
theorem tabF_ok (i : Nat) (f : Frm) : TabOk (tabF i f) := by
  have hk := keysF_le f
  by_cases h : f.1 = []
  · have hw : wideF f = 0 := by unfold wideF; rw [h]; rfl
    have hk1 : keysF f = 1 := by omega
    unfold tabF
    rw [if_pos h, hk1]
    exact {
      some := (show 1 ≤ 1 by decide)
      most := (show 1 ≤ 8 by decide)
      keys := (show (1 : Int) ≤ 1 by decide)
      fit := (show (1 : Int) ≤ 1 by decide)
      kind := fun j hj => by obtain rfl : j = 0 := (by simpa using hj); exact .inl rfl
      null := fun j hj e => by
        obtain rfl : j = 0 := (by simpa using hj)
        cases e
      names := fun c hc => by obtain rfl : c = _ := List.mem_singleton.1 hc; exact ⟨by decide, (show 1 ≤ 20 by decide)⟩
      once := (show ([one 97] : List ByteArray).Nodup by decide) }
  · have h1 : 0 < wideF f := by have := List.length_pos_iff.2 h; unfold wideF; omega
    have h8 : wideF f ≤ 8 := by unfold wideF; omega
    unfold tabF
    rw [if_neg h]
    exact {
      some := by rw [colsN_len]; exact h1
      most := by rw [colsN_len]; exact h8
      keys := by show (1 : Int) ≤ (keysF f : Int); omega
      fit := by show (keysF f : Int) ≤ ((colsN f (keysF f) (wideF f) (wideF f)).length : Int); rw [colsN_len]; omega
      kind := fun j hj => by
        show (colsN f (keysF f) (wideF f) (wideF f))[j].2.1 = 1 ∨ (colsN f (keysF f) (wideF f) (wideF f))[j].2.1 = 2
        rw [colsN_get]; exact kind_two _
      null := fun j hj e => by
        have e' : (colsN f (keysF f) (wideF f) (wideF f))[j].2.2 = true := e
        rw [colsN_get] at e'
        show (keysF f : Int) ≤ (j : Int)
        have : keysF f ≤ j := by
          simp only [Bool.and_eq_true, decide_eq_true_eq] at e'
          exact e'.1.1
        omega
      names := fun c hc => by
        unfold colsN at hc
        obtain ⟨k, _, rfl⟩ := List.mem_map.1 hc
        exact ⟨(show 1 ≤ 1 by decide), (show 1 ≤ 20 by decide)⟩
      once := by
        show ((colsN f (keysF f) (wideF f) (wideF f)).map (·.1)).Nodup
        unfold colsN
        rw [List.map_map]
        exact colNames_nodup h8 }
theorem tabsF_ok (l : List Frm) : TabsOk (tabsF l) where
  some := by rw [tabsF_len]; omega
  most := by rw [tabsF_len]; omega
  each := fun t ht => by
    unfold tabsF at ht
    obtain ⟨i, _, rfl⟩ := List.mem_map.1 ht
    exact tabF_ok _ _
  names := fun t ht => by
    unfold tabsF at ht
    obtain ⟨i, _, rfl⟩ := List.mem_map.1 ht
    exact ⟨(show 1 ≤ 2 by decide), (show 2 ≤ 20 by decide)⟩
  once := by
    unfold tabsF
    rw [List.map_map]
    exact tabNames_nodup (by omega)
set_option maxHeartbeats 600000 in
set_option maxRecDepth 100000 in
theorem tables_none {w : World} {A0 : Option Addr} {c0 : Nat} : Calls Tryz.prog 9 #[.slice A0 0 c0] w fun e w' => ∃ A c, e = .returned (.slice A 1 c) ∧ Ow tTab 54 w' (fun i => w.heap.size ≤ i) (.slice A 1 c) [tab0] ∧ Fr No w w' := by
  have hw := Lib.hid (Fr.refl No w)
  have hconv : (convert 46 9 (.slice (some ⟨w.heap.size + 1, 0, none⟩) 2 2)).run Tryz.prog ((w.alloc (.cells #[.slice none 0 0, .int .u8 0] 89)).alloc (.cells #[.int .u8 116, .int .u8 48] 5)) = .ok (.string (two 116 48)) _ := run_two_at _ _ 116 48 (x := 116) (y := 48) rfl rfl (blk_two2 _ _ _)
  go_enter Tryz.func9, Tryz.ntmps9
  go_wp2_with fail
  refine wp_loop_rounds 2 ?_
  rw [rounds_succ]
  go_wp2_with fail
  obtain ⟨W, hW⟩ : ∃ W, W = ((((w.alloc (.cells #[.slice none 0 0, .int .u8 0] 89)).alloc (.cells #[.int .u8 116, .int .u8 48] 5)).alloc (.cells #[.string (one 97), .int .u8 1, .bool false] 91)).alloc (.cells #[.string (two 116 48), .slice (some ⟨w.heap.size + 1 + 1, 0, none⟩) 1 1, .int .i64 1] 54)) := ⟨_, rfl⟩
  have hsz : W.heap.size = w.heap.size + 4 := by rw [hW]; simp
  have bt : W.heap[w.heap.size + 1 + 1 + 1]? = some (.cells #[.string (two 116 48), .slice (some ⟨w.heap.size + 1 + 1, 0, none⟩) 1 1, .int .i64 1] 54) := by rw [hW]; have := heap_alloc_new (((w.alloc (.cells #[.slice none 0 0, .int .u8 0] 89)).alloc (.cells #[.int .u8 116, .int .u8 48] 5)).alloc (.cells #[.string (one 97), .int .u8 1, .bool false] 91)) (.cells #[.string (two 116 48), .slice (some ⟨w.heap.size + 1 + 1, 0, none⟩) 1 1, .int .i64 1] 54); simpa using this
  have bc : W.heap[w.heap.size + 1 + 1]? = some (.cells #[.string (one 97), .int .u8 1, .bool false] 91) := by rw [hW, Below.heap_alloc _ _ _ (by simp)]; have := heap_alloc_new ((w.alloc (.cells #[.slice none 0 0, .int .u8 0] 89)).alloc (.cells #[.int .u8 116, .int .u8 48] 5)) (.cells #[.string (one 97), .int .u8 1, .bool false] 91); simpa using this
  have bf : W.heap[w.heap.size]? = some (.cells #[.slice none 0 0, .int .u8 0] 89) := by rw [hW, Below.heap_alloc _ _ _ (by simp; omega), Below.heap_alloc _ _ _ (by simp; omega), Below.heap_alloc _ _ _ (by simp)]; exact heap_alloc_new _ _
  have hf : Fr No w W := by rw [hW]; exact ((((Fr.refl No w).alloc _).alloc _).alloc _).alloc _
  have t0 := blk_cell bt 0
  have t1 := blk_cell bt 1
  have t2 := blk_cell bt 2
  have z2 := blk_frozen bt 2
  have f0 := blk_cell bf 0
  have f1 := blk_cell bf 1
  simp at t0 t1 t2 f0 f1
  have hkeep := Lib.hid (And.intro hsz (And.intro bt (And.intro bc hf)))
  rw [show (⟨#[97]⟩ : ByteArray) = one 97 from rfl]
  rw [← hW]
  clear hW hconv bt bc bf hf hsz hw
  refine wp_loop_rounds 1 ?_
  rw [rounds_succ]
  go_wp2_with fail
  obtain ⟨V, hV⟩ : ∃ V, V = W.setCell ⟨w.heap.size + 1 + 1 + 1, 2, none⟩ (.int .i64 1) := ⟨_, rfl⟩
  have hb : V.heap[w.heap.size + 1 + 1 + 1]? = some (.cells #[.string (two 116 48), .slice (some ⟨w.heap.size + 1 + 1, 0, none⟩) 1 1, .int .i64 1] 54) := by rw [hV]; exact blk_set hkeep.out.2.1 2 _
  have hc : V.heap[w.heap.size + 1 + 1]? = some (.cells #[.string (one 97), .int .u8 1, .bool false] 91) := by rw [hV]; exact blk_far hkeep.out.2.2.1 (by simp) _
  have hfV : Fr No w V := by rw [hV]; exact hkeep.out.2.2.2.set _ (.inr (by simp; omega)) _
  have hszV : V.heap.size = w.heap.size + 4 := by rw [hV]; simpa using hkeep.out.1
  have v0 := blk_cell hb 0
  have v1 := blk_cell hb 1
  have v2 := blk_cell hb 2
  have hff : V.heap[w.heap.size]? = W.heap[w.heap.size]? := by rw [hV]; exact Below.heap_setCell _ _ _ _ (by simp; omega)
  have g0 : V.cell? ⟨w.heap.size, 0, none⟩ = some (.slice none 0 0) := by rw [← f0]; unfold World.cell?; simp only [hff]
  simp at v0 v1 v2
  rw [← hV]
  obtain ⟨W2, hW2⟩ : ∃ W2, W2 = V.alloc (.cells #[.string (two 116 48), .slice (some ⟨w.heap.size + 1 + 1, 0, none⟩) 1 1, .int .i64 1] 54) := ⟨_, rfl⟩
  have hf2 : Fr No V W2 := by rw [hW2]; exact (Fr.refl No V).alloc _
  have hA : At W2 (some ⟨V.heap.size, 0, none⟩) [.string (two 116 48), .slice (some ⟨w.heap.size + 1 + 1, 0, none⟩) 1 1, .int .i64 1] := by rw [hW2]; exact At.block (heap_alloc_new V _)
  have hcol : Rd tCol V (fun i => w.heap.size ≤ i) (some ⟨w.heap.size + 1 + 1, 0, none⟩) [(one 97, 1, false)] :=
    ⟨by simp, [.string (one 97), .int .u8 1, .bool false], Row.single (t := tCol) ⟨[.string (one 97)], [.int .u8 1, .bool false], rfl, rfl, [.int .u8 1], [.bool false], rfl, rfl, rfl⟩, fun j u hu => ⟨_, rfl, by simp; omega, by rw [add0, blk_cell hc, ← Array.getElem?_toList]; exact hu⟩⟩
  have hrow : Row tTab W2 (fun i => w.heap.size ≤ i ∧ (Value.slice none 0 0).ownBlock ≠ some i) [tab0] [.string (two 116 48), .slice (some ⟨w.heap.size + 1 + 1, 0, none⟩) 1 1, .int .i64 1] :=
    Row.single (t := tTab) ⟨[.string (two 116 48)], [.slice (some ⟨w.heap.size + 1 + 1, 0, none⟩) 1 1, .int .i64 1], rfl, rfl, [.slice (some ⟨w.heap.size + 1 + 1, 0, none⟩) 1 1], [.int .i64 1], rfl, ⟨_, 1, rfl, Nat.le_refl _, (hcol.fr0 hf2).mono fun i hi _ => ⟨hi, by simp [Value.ownBlock]⟩⟩, rfl⟩
  obtain ⟨A1, c1, w1, hrun, hO, hg, _⟩ := run_ow_append (P := Tryz.prog) (ty := 27) (ty' := 27) tTab (Ow.nil (F := fun i => w.heap.size ≤ i)) (.agg #[.string ⟨#[]⟩, .slice none 0 0, .int .i64 0]) 48 Tryz.underlying27 info_tab rfl (by decide) (by decide) 1 (ys := [tab0]) hrow hA (by simp)
  simp only [List.length_nil, Nat.zero_add, List.nil_append, List.length_singleton] at hrun hO
  rw [hszV] at hrun
  have hO' : Ow tTab 54 w1 (fun i => w.heap.size ≤ i) (.slice A1 1 c1) [tab0] := hO.mono fun i hi _ => by
    have := hf2.size
    rcases hi with hi | hi <;> omega
  have HF := Lib.hid (And.intro hO' ((hfV.next hf2 (fun _ _ f => f.elim)).grown hg fun k hk => by simp [Value.ownBlock] at hk))
  clear hb hc hfV hff hf2 hcol hrow hO hO' hg hV hA hkeep t0 t1 t2 f0 f1 z2
  refine wp_loop_rounds 1 ?_
  rw [rounds_succ]
  go_wp2_with (at_builtin; rw [← hW2]; refine wpList_plain rfl fun K hK => wp_append_run _ _ _ _ rfl rfl rfl hrun (hK _ _ ?_))
  rw [rounds_succ]
  go_wp2_with fail
  go_ret
  exact ⟨A1, c1, rfl, HF.out.1, HF.out.2⟩
/-- Tables of any forms, nil too. -/
theorem tables_ok {w : World} {R : Nat → Prop} {A : Option Addr} {c : Nat} {l : List Frm} (h : Rd tFrm w R A l) (hc : l.length ≤ c) (h5 : l.length ≤ 5) (h9 : ∀ f ∈ l, f.1.length ≤ 9) :
    Calls Tryz.prog 9 #[.slice A l.length c] w fun e w' => ∃ Ao co, e = .returned (.slice Ao (tabsF l).length co) ∧ Ow tTab 54 w' (fun i => w.heap.size ≤ i) (.slice Ao (tabsF l).length co) (tabsF l) ∧ Fr No w w' := by
  by_cases h0 : l = []
  · subst h0
    exact tables_none
  · have h1 : 1 ≤ l.length := List.length_pos_iff.2 h0
    rw [tabsF_len, show max 1 (min 4 l.length) = min 4 l.length by omega]
    exact tables_some h rfl h1 h5 h9
end Go.Proofs.YtlmhphejgahfbaaGreatDoor
/- A form opened. -/
set_option linter.unusedVariables false
set_option linter.unusedSimpArgs false
namespace Go.Proofs.YtlmhphejgahfbaaGreatDoor
open Go.RowKit Go.Deep Go.ChangeShapes

theorem opens_bytes : Opens Tryz.prog (Ty.slice Ty.u8) 46 := Opens.slice (Opens.u8 (by kernel_rfl) Tryz.underlying5) (by kernel_rfl) Tryz.underlying46
theorem opens_frm : Opens Tryz.prog tFrm 89 := by
  have o5 : Opens Tryz.prog Ty.u8 5 := Opens.u8 (by kernel_rfl) Tryz.underlying5
  have hc : Tryz.prog.cellsOf 89 = 2 := by kernel_rfl
  refine ⟨hc, fun H enc w base spare held fuel cs x h => ?_⟩
  obtain ⟨y0, y1, n, rfl, hl, h0, h1⟩ := trod_struct2 Tryz.underlying89 h
  rw [hc] at hl
  simp only [o5.1, opens_bytes.1] at h0 h1
  match cs, hl with
  | [c0, c1], _ =>
    obtain ⟨v0, e0⟩ := opens_bytes.2 _ _ _ _ _ _ _ _ _ h0
    obtain ⟨v1, e1⟩ := o5.2 _ _ _ _ _ _ _ _ _ h1
    exact ⟨⟨v0, v1⟩, [c0], [c1], rfl, e0, e1⟩
theorem opens_frms : Opens Tryz.prog (Ty.slice tFrm) 45 := Opens.slice opens_frm (by kernel_rfl) Tryz.underlying45
end Go.Proofs.YtlmhphejgahfbaaGreatDoor
/- Layer 6 (record), as far as a batch may be: plain functions. -/
set_option linter.unusedVariables false
set_option linter.unusedSimpArgs false
namespace Go.Proofs.YtlmhphejgahfbaaGreatDoor

/-- A key's new row, or that it is gone. -/
structure Wr where
  key : ByteArray
  row : Bs
  gone : Bool
def tWr : Ty Wr := Ty.iso (Ty.pair Ty.str (Ty.pair (Ty.slice Ty.u8) Ty.bool)) fun x => (x.key, x.row, x.gone)
theorem tWr_open {w : World} {F : Nat → Prop} {x : Wr} {cs : List Value} (h : tWr.K w F x cs) :
    ∃ A c, cs = [.string x.key, .slice A x.row.length c, .bool x.gone] ∧ x.row.length ≤ c ∧ Rd Ty.u8 w F A x.row := by
  obtain ⟨_, _, rfl, rfl, _, _, rfl, ⟨A, c, rfl, h1, h2⟩, rfl⟩ := h
  exact ⟨A, c, rfl, h1, h2⟩
theorem tWr_mk {w : World} {F : Nat → Prop} {a : ByteArray} {r : Bs} {g : Bool} {A : Option Addr} {c : Nat} (h1 : r.length ≤ c) (h2 : Rd Ty.u8 w F A r) :
    tWr.K w F ⟨a, r, g⟩ [.string a, .slice A r.length c, .bool g] :=
  ⟨_, [_, _], rfl, rfl, [_], [_], rfl, ⟨A, c, rfl, h1, h2⟩, rfl⟩

/-- May a write be, behind another one's key? -/
def fits (x : Wr) (last : ByteArray) : Bool :=
  decide (1 ≤ x.key.size) && decide (x.key.size ≤ 4000) && decide (x.row.length ≤ 4000) && kl last x.key && (!x.gone || decide (x.row.length = 0))
def allFit : ByteArray → List Wr → Bool
  | _, [] => true
  | last, x :: l => fits x last && allFit x.key l
def right (n : Int) (l : List Wr) : Bool := allFit ⟨#[]⟩ l && (decide (1 ≤ n) && decide (1 ≤ l.length) && decide (l.length ≤ 64))

theorem kl_not (a b : ByteArray) : (!(Op.bytesLess a.toList b.toList || a.toList == b.toList)) = kl b a := by
  show (!(kl a b || _)) = _
  rw [beq_toList]
  cases h1 : kl a b with
  | true => rw [kl_asymm h1]; rfl
  | false =>
    by_cases h2 : a = b
    · subst h2; rw [kl_irrefl]; simp
    · cases h3 : kl b a with
      | true => simp [h2]
      | false => exact absurd (kl_tri h1 h3) h2
theorem allFit_append (last : ByteArray) (l : List Wr) (x : Wr) : allFit last (l ++ [x]) = (allFit last l && fits x ((l.getLast?.map Wr.key).getD last)) := by
  induction l generalizing last with
  | nil => simp [allFit]
  | cons y l ih =>
    simp only [List.cons_append, allFit, ih, Bool.and_assoc]
    congr 3
    cases l with
    | nil => simp
    | cons z l =>
      rw [List.getLast?_cons_cons]
      cases hl : (z :: l).getLast? with
      | none => simp at hl
      | some u => simp
theorem allFit_mem {last : ByteArray} {l : List Wr} (h : allFit last l = true) : ∀ x ∈ l, 1 ≤ x.key.size ∧ x.key.size ≤ 4000 ∧ x.row.length ≤ 4000 ∧ (x.gone = true → x.row = []) := by
  induction l generalizing last with
  | nil => intro x hx; cases hx
  | cons y l ih =>
    simp only [allFit, Bool.and_eq_true] at h
    intro x hx
    rcases List.mem_cons.1 hx with rfl | hx
    · have := h.1
      simp only [fits, Bool.and_eq_true, Bool.or_eq_true, decide_eq_true_eq, Bool.not_eq_true'] at this
      refine ⟨this.1.1.1.1, this.1.1.1.2, this.1.1.2, fun hg => ?_⟩
      rcases this.2 with h1 | h1
      · rw [hg] at h1; cases h1
      · exact List.eq_nil_of_length_eq_zero h1
    · exact ih h.2 x hx
end Go.Proofs.YtlmhphejgahfbaaGreatDoor
/- Layer 13 (store): all keys' versions, as plain functions. -/
set_option linter.unusedVariables false
set_option linter.unusedSimpArgs false
namespace Go.Proofs.YtlmhphejgahfbaaGreatDoor

/-- A key's value in a list that rises by its keys. -/
def slay {β : Type} (k : ByteArray) (v : β) : List (ByteArray × β) → List (ByteArray × β)
  | [] => [(k, v)]
  | p :: l => if kl k p.1 then (k, v) :: p :: l else if k = p.1 then (k, v) :: l else p :: slay k v l
section
variable {β : Type} {k : ByteArray} {v : β} {l : List (ByteArray × β)}
theorem slay_keys (k : ByteArray) (v : β) (l : List (ByteArray × β)) : (slay k v l).map Prod.fst = ins k (l.map Prod.fst) := by
  induction l with
  | nil => rfl
  | cons p l ih =>
    unfold slay
    simp only [List.map_cons, ins]
    split
    · rfl
    · split
      · rename_i h; subst h; rfl
      · rw [← ih]; rfl
theorem slay_rising (h : Rising (l.map Prod.fst)) : Rising ((slay k v l).map Prod.fst) := by rw [slay_keys]; exact rising_ins h
theorem look_slay (h : Rising (l.map Prod.fst)) (k' : ByteArray) : look k' (slay k v l) = if k = k' then some v else look k' l := by
  induction l with
  | nil => unfold slay look; split <;> simp [look]
  | cons p l ih =>
    obtain ⟨h1, h2⟩ := List.pairwise_cons.1 h
    unfold slay
    by_cases hk : kl k p.1 = true
    · rw [if_pos hk]; simp only [look]
    · rw [if_neg hk]
      by_cases he : k = p.1
      · rw [if_pos he]
        subst he
        simp only [look]
        split <;> rfl
      · rw [if_neg he]
        simp only [look, ih h2]
        by_cases h3 : p.1 = k'
        · rw [if_pos h3, if_neg (fun e => he (e.trans h3.symm)), if_pos h3]
        · rw [if_neg h3, if_neg h3]
theorem slay_length : (slay k v l).length ≤ l.length + 1 := by
  induction l with
  | nil => simp [slay]
  | cons p l ih =>
    unfold slay
    split
    · simp
    · split
      · simp
      · simp only [List.length_cons]; omega
theorem mem_slay (h : Rising (l.map Prod.fst)) (p : ByteArray × β) (hp : p ∈ slay k v l) : p = (k, v) ∨ p ∈ l := by
  have h1 := look_of_mem (slay_rising h).nodup (show (p.1, p.2) ∈ slay k v l from hp)
  rw [look_slay h] at h1
  split at h1
  · rename_i e; injection h1 with h1; left; rw [e, h1]
  · exact .inr (look_mem h1)
end

/-- Keys, rising, and their chains; how many batches came. -/
structure Sto where
  kc : List (ByteArray × Chn)
  now : Int
namespace Sto
def empty : Sto := ⟨[], 0⟩
def of (s : Sto) (k : ByteArray) : Chn := (look k s.kc).getD Chn.empty
/-- One write of the batch n. -/
def put1 (n : Int) (kc : List (ByteArray × Chn)) (x : Wr) : List (ByteArray × Chn) := slay x.key (((look x.key kc).getD Chn.empty).put n x.row x.gone) kc
def apply (s : Sto) (n : Int) (l : List Wr) : Sto × Int :=
  if right n l = false then (s, 2) else if n = s.now + 1 then (⟨l.foldl (put1 n) s.kc, n⟩, 0) else (s, 1)
def get (s : Sto) (a : Int) (k : ByteArray) : Option Bs := (s.of k).get a
def last (s : Sto) (k : ByteArray) : Int := (s.of k).last
/-- What is seen at a number, from a key on, and below another one. -/
def all (s : Sto) (a : Int) (lo hi : ByteArray) : List (ByteArray × Bs) :=
  s.kc.filterMap fun p => match p.2.get a with
    | some row => if kl p.1 lo = false ∧ (hi.size = 0 ∨ kl p.1 hi = true) then some (p.1, row) else none
    | none => none
def scan (s : Sto) (a : Int) (lo hi : ByteArray) (most : Int) : List (ByteArray × Bs) := (s.all a lo hi).take most.toNat
def cut (s : Sto) (a : Int) : Nat := (s.kc.map fun p => p.2.cut a).sum
def trim (s : Sto) (a : Int) : Sto := ⟨s.kc.map fun p => (p.1, p.2.trim a), s.now⟩
def len (s : Sto) : Nat := (s.kc.map fun p => p.2.l.length).sum
/-- How much there is, at most: m numbers. -/
structure Small (s : Sto) (m : Nat) : Prop where
  now0 : 0 ≤ s.now
  now1 : s.now ≤ m
  keys : s.kc.length ≤ m
  ksz : ∀ p ∈ s.kc, p.1.size ≤ 4000
  chains : ∀ p ∈ s.kc, p.2.l.length ≤ m ∧ p.2.last ≤ s.now ∧ ∀ v ∈ p.2.l, v.row.length ≤ 4000
end Sto

/-! ### What a scan selects -/
abbrev Item := ByteArray × Bs
def tItem : Ty Item := Ty.pair Ty.str (Ty.slice Ty.u8)
theorem tItem_open {w : World} {F : Nat → Prop} {x : Item} {cs : List Value} (h : tItem.K w F x cs) : ∃ A c, cs = [.string x.1, .slice A x.2.length c] ∧ x.2.length ≤ c ∧ Rd Ty.u8 w F A x.2 := by
  obtain ⟨_, _, rfl, rfl, A, c, rfl, h1, h2⟩ := h
  exact ⟨A, c, rfl, h1, h2⟩
theorem tItem_mk {w : World} {F : Nat → Prop} {a : ByteArray} {r : Bs} {A : Option Addr} {c : Nat} (h1 : r.length ≤ c) (h2 : Rd Ty.u8 w F A r) : tItem.K w F (a, r) [.string a, .slice A r.length c] :=
  ⟨[_], [_], rfl, rfl, A, c, rfl, h1, h2⟩
namespace Sto
def sel (a : Int) (lo hi : ByteArray) (p : ByteArray × Chn) : Option Item :=
  match p.2.get a with
  | some row => if kl p.1 lo = false ∧ (hi.size = 0 ∨ kl p.1 hi = true) then some (p.1, row) else none
  | none => none
theorem all_eq (s : Sto) (a : Int) (lo hi : ByteArray) : s.all a lo hi = s.kc.filterMap (sel a lo hi) := rfl
theorem sel_none {a : Int} {lo hi : ByteArray} {p : ByteArray × Chn} (h0 : hi.size ≠ 0) (h : kl p.1 hi = false) : sel a lo hi p = none := by
  unfold sel
  split
  · rw [if_neg (by rw [h]; simp [h0])]
  · rfl
theorem scan_stop1 {s : Sto} {a : Int} {lo hi : ByteArray} {most : Int} {k : Nat} (h : most ≤ (((s.kc.take k).filterMap (sel a lo hi)).length : Int)) (h' : (((s.kc.take k).filterMap (sel a lo hi)).length : Int) ≤ max most 0) :
    s.scan a lo hi most = (s.kc.take k).filterMap (sel a lo hi) := by
  have e : most.toNat = ((s.kc.take k).filterMap (sel a lo hi)).length := by omega
  unfold scan
  have h2 := List.filterMap_append (f := sel a lo hi) (l := s.kc.take k) (l' := s.kc.drop k)
  rw [List.take_append_drop] at h2
  rw [all_eq, e, h2]
  exact List.take_left
theorem scan_stop2 {s : Sto} {a : Int} {lo hi : ByteArray} {most : Int} {k : Nat} (hr : Rising (s.kc.map Prod.fst)) (hk : k < s.kc.length) (h0 : hi.size ≠ 0) (hh : kl s.kc[k].1 hi = false) (h' : (((s.kc.take k).filterMap (sel a lo hi)).length : Int) ≤ max most 0) :
    s.scan a lo hi most = (s.kc.take k).filterMap (sel a lo hi) := by
  have e : s.kc.filterMap (sel a lo hi) = (s.kc.take k).filterMap (sel a lo hi) := by
    conv => lhs; rw [← List.take_append_drop k s.kc]
    rw [List.filterMap_append]
    have : (s.kc.drop k).filterMap (sel a lo hi) = [] := by
      rw [List.filterMap_eq_nil_iff]
      intro p hp
      refine sel_none h0 ?_
      obtain ⟨j, hj, rfl⟩ := List.mem_drop_iff_getElem.1 hp
      rcases Nat.eq_zero_or_pos j with rfl | hj0
      · exact hh
      · have h1 := List.pairwise_iff_getElem.1 (List.pairwise_map.1 hr) k (k + j) hk (by omega) (by omega)
        cases h2 : kl (s.kc[k + j]'(by omega)).1 hi with
        | false => rfl
        | true => have := kl_trans h1 h2; rw [hh] at this; cases this
    rw [this, List.append_nil]
  unfold scan
  rw [all_eq, e]
  exact List.take_of_length_le (by omega)
theorem scan_end {s : Sto} {a : Int} {lo hi : ByteArray} {most : Int} (h' : ((s.kc.filterMap (sel a lo hi)).length : Int) ≤ max most 0) : s.scan a lo hi most = s.kc.filterMap (sel a lo hi) := by
  unfold scan
  rw [all_eq]
  exact List.take_of_length_le (by omega)
theorem sel_step {s : Sto} {a : Int} {lo hi : ByteArray} {k : Nat} (hk : k < s.kc.length) : (s.kc.take (k + 1)).filterMap (sel a lo hi) = (s.kc.take k).filterMap (sel a lo hi) ++ (sel a lo hi s.kc[k]).toList := by
  rw [List.take_succ_eq_append_getElem hk, List.filterMap_append]
  cases h : sel a lo hi s.kc[k] <;> simp [h]
end Sto
end Go.Proofs.YtlmhphejgahfbaaGreatDoor
/- Layer 14 (tx): writes by keys, rising: plain functions. -/
set_option linter.unusedVariables false
set_option linter.unusedSimpArgs false
namespace Go.Proofs.YtlmhphejgahfbaaGreatDoor

/-- A write in its place. -/
def wput (x : Wr) : List Wr → List Wr
  | [] => [x]
  | y :: l => if kl x.key y.key then x :: y :: l else if x.key = y.key then x :: l else y :: wput x l
def wfind (k : ByteArray) (l : List Wr) : Option Wr := l.find? fun x => decide (x.key = k)
/-- What a transaction has behind a write; the error. -/
def wwrite (l : List Wr) (x : Wr) : List Wr × Int := if (wfind x.key l).isNone = true ∧ 20 ≤ l.length then (l, 1) else (wput x l, 0)

theorem wfind_none {k : ByteArray} {l : List Wr} : wfind k l = none ↔ k ∉ l.map Wr.key := by
  unfold wfind
  rw [List.find?_eq_none]
  simp only [decide_eq_true_eq, List.mem_map, not_exists, not_and]
theorem wfind_some {k : ByteArray} {l : List Wr} {x : Wr} (h : wfind k l = some x) : x ∈ l ∧ x.key = k := by
  unfold wfind at h
  exact ⟨List.mem_of_find?_eq_some h, by simpa using List.find?_some h⟩
theorem wput_cons (x y : Wr) (l : List Wr) : wput x (y :: l) = if kl x.key y.key then x :: y :: l else if x.key = y.key then x :: l else y :: wput x l := rfl
theorem wput_keys (x : Wr) (l : List Wr) : (wput x l).map Wr.key = ins x.key (l.map Wr.key) := by
  induction l with
  | nil => rfl
  | cons y l ih =>
    unfold wput
    simp only [List.map_cons, ins]
    split
    · rfl
    · split
      · rename_i h; rw [List.map_cons, h]
      · rw [List.map_cons, ih]
theorem wput_rising {x : Wr} {l : List Wr} (h : Rising (l.map Wr.key)) : Rising ((wput x l).map Wr.key) := by rw [wput_keys]; exact rising_ins h
theorem wfind_wput {x : Wr} {l : List Wr} (h : Rising (l.map Wr.key)) (k : ByteArray) : wfind k (wput x l) = if x.key = k then some x else wfind k l := by
  induction l with
  | nil => unfold wput wfind; by_cases e : x.key = k <;> simp [e]
  | cons y l ih =>
    obtain ⟨h1, h2⟩ := List.pairwise_cons.1 h
    unfold wput
    by_cases hk : kl x.key y.key = true
    · rw [if_pos hk]; unfold wfind
      by_cases e : x.key = k <;> simp [e]
    · rw [if_neg hk]
      by_cases he : x.key = y.key
      · rw [if_pos he]; unfold wfind
        by_cases e : x.key = k
        · simp [e]
        · have e2 : ¬ y.key = k := fun h => e (he.trans h)
          simp [e, e2]
      · rw [if_neg he]
        have := ih h2
        unfold wfind at this ⊢
        by_cases e : y.key = k
        · have e2 : ¬ x.key = k := fun h => he (h.trans e.symm)
          simp [e, e2]
        · simp only [List.find?_cons, decide_eq_false e]
          exact this
theorem wput_length {x : Wr} {l : List Wr} (hr : Rising (l.map Wr.key)) : (wput x l).length = if (wfind x.key l).isNone = true then l.length + 1 else l.length := by
  induction l with
  | nil => rfl
  | cons y l ih =>
    obtain ⟨h1, h2⟩ := List.pairwise_cons.1 hr
    unfold wput
    by_cases hk : kl x.key y.key = true
    · have hn : wfind x.key (y :: l) = none := wfind_none.2 fun hm => by
        rcases List.mem_cons.1 hm with e | hm
        · exact kl_ne hk e
        · exact kl_ne (kl_trans hk (h1 _ hm)) rfl
      rw [if_pos hk, hn]; rfl
    · rw [if_neg hk]
      by_cases he : x.key = y.key
      · have hs : wfind x.key (y :: l) = some y := by unfold wfind; simp [he]
        rw [if_pos he, hs]; rfl
      · have hs : wfind x.key (y :: l) = wfind x.key l := by unfold wfind; rw [List.find?_cons_of_neg (by simpa using fun e : y.key = x.key => he e.symm)]
        rw [if_neg he, hs, List.length_cons, ih h2]
        split <;> rfl
theorem mem_wput {x y : Wr} {l : List Wr} (h : y ∈ wput x l) : y = x ∨ y ∈ l := by
  induction l with
  | nil => left; simpa [wput] using h
  | cons z l ih =>
    unfold wput at h
    split at h
    · rcases List.mem_cons.1 h with h | h
      · exact .inl h
      · exact .inr h
    · split at h
      · rcases List.mem_cons.1 h with h | h
        · exact .inl h
        · exact .inr (List.mem_cons_of_mem _ h)
      · rcases List.mem_cons.1 h with h | h
        · exact .inr (by rw [h]; exact List.mem_cons_self ..)
        · exact (ih h).imp id (List.mem_cons_of_mem _)

/-! ### The document's way: one after the other -/
/-- So many of the writes are ahead of the new one. -/
def wdone (x : Wr) (l : List Wr) : Bool := l.any fun y => !kl y.key x.key
/-- What the loop has, behind so many writes. -/
def wout (x : Wr) (l : List Wr) : List Wr := if wdone x l = true then wput x l else l
theorem wdone_snoc (x : Wr) (l : List Wr) (y : Wr) : wdone x (l ++ [y]) = (wdone x l || !kl y.key x.key) := by unfold wdone; rw [List.any_append]; simp
theorem wput_all {x : Wr} {l : List Wr} (h : wdone x l = false) : wput x l = l ++ [x] := by
  induction l with
  | nil => rfl
  | cons y l ih =>
    unfold wdone at h
    simp only [List.any_cons, Bool.or_eq_false_iff, Bool.not_eq_false'] at h
    unfold wput
    rw [if_neg (by rw [kl_asymm h.1]; simp), if_neg (fun e => by have := kl_ne h.1; exact this e.symm), ih h.2]
    rfl
/-- Behind one that isn't ahead of the new one, all others go on as they are. -/
theorem wput_snoc {x : Wr} {l : List Wr} {y : Wr} (h : wdone x l = true) (hr : Rising ((l ++ [y]).map Wr.key)) : wput x (l ++ [y]) = wput x l ++ [y] ∧ x.key ≠ y.key := by
  induction l with
  | nil => cases h
  | cons z l ih =>
    rw [List.cons_append, List.map_cons] at hr
    obtain ⟨h1, h2⟩ := List.pairwise_cons.1 hr
    have hzy : kl z.key y.key = true := h1 _ (List.mem_map_of_mem (by simp))
    unfold wdone at h
    simp only [List.any_cons, Bool.or_eq_true, Bool.not_eq_true'] at h
    by_cases hz : kl z.key x.key = false
    · have hle : kl x.key z.key = true ∨ x.key = z.key := by
        cases hx : kl x.key z.key with
        | true => exact .inl rfl
        | false => exact .inr (kl_tri hx hz)
      refine ⟨?_, ?_⟩
      · rw [List.cons_append, wput_cons, wput_cons]
        rcases hle with hle | hle
        · rw [if_pos hle, if_pos hle]; rfl
        · have hk : ¬ kl x.key z.key = true := by rw [hle, kl_irrefl]; simp
          rw [if_neg hk, if_neg hk, if_pos hle, if_pos hle]; rfl
      · rcases hle with hle | hle
        · exact kl_ne (kl_trans hle hzy)
        · rw [hle]; exact kl_ne hzy
    · have hz : kl z.key x.key = true := by simpa using hz
      have hd : wdone x l = true := by
        rcases h with h | h
        · rw [hz] at h; cases h
        · unfold wdone; simpa using h
      obtain ⟨h3, h4⟩ := ih hd h2
      refine ⟨?_, h4⟩
      rw [List.cons_append, wput_cons, wput_cons]
      have hxz : kl x.key z.key = false := kl_asymm hz
      have hne : ¬ x.key = z.key := fun e => kl_ne hz e.symm
      rw [if_neg (by rw [hxz]; simp), if_neg hne, if_neg (by rw [hxz]; simp), if_neg hne, h3]
      rfl
theorem wput_pre {x : Wr} {l m : List Wr} (h : wdone x l = false) : wput x (l ++ m) = l ++ wput x m := by
  induction l with
  | nil => rfl
  | cons y l ih =>
    unfold wdone at h
    simp only [List.any_cons, Bool.or_eq_false_iff, Bool.not_eq_false'] at h
    rw [List.cons_append, wput, if_neg (by rw [kl_asymm h.1]; simp), if_neg (fun e => by have := kl_ne h.1; exact this e.symm), ih h.2]
    rfl
/-- One step. -/
theorem wout_step {x : Wr} {l : List Wr} {y : Wr} (hr : Rising ((l ++ [y]).map Wr.key)) :
    wout x (l ++ [y]) = (if wdone x l = false ∧ kl y.key x.key = false then wout x l ++ [x] else wout x l) ++ (if y.key = x.key then [] else [y]) := by
  unfold wout
  rw [wdone_snoc]
  cases hd : wdone x l with
  | true =>
    obtain ⟨h1, h2⟩ := wput_snoc hd hr
    have h3 : ¬ y.key = x.key := fun e => h2 e.symm
    simp [h1, h3]
  | false =>
    cases hk : kl y.key x.key with
    | true =>
      have := kl_ne hk
      simp [this]
    | false =>
      have hp := wput_pre (m := [y]) hd
      simp only [Bool.false_or, Bool.not_false, if_true, true_and, and_self, Bool.false_eq_true, if_false]
      rw [hp]
      unfold wput wput
      by_cases h1 : kl x.key y.key = true
      · rw [if_pos h1, if_neg (fun e => kl_ne h1 e.symm)]; simp
      · have e : x.key = y.key := kl_tri (by simpa using h1) hk
        rw [if_neg h1, if_pos e, if_pos e.symm]; simp
theorem wout_end {x : Wr} {l : List Wr} : (if wdone x l = true then wout x l else wout x l ++ [x]) = wput x l := by
  unfold wout
  cases hd : wdone x l with
  | true => rfl
  | false => simp [wput_all hd]
end Go.Proofs.YtlmhphejgahfbaaGreatDoor
/- The i-th bit of a sum: the program's and the reference's. -/
set_option linter.unusedVariables false
set_option linter.unusedSimpArgs false
namespace Go.Proofs.YtlmhphejgahfbaaGreatDoor
open Go.RowKit

def bitN (d : ByteArray) (i : Nat) : Nat := ((d.data.toList[i / 8]?).getD 0).toNat / 2 ^ (7 - i % 8) % 2
def bitB (d : ByteArray) (i : Nat) : Bool := bitN d i == 1
theorem bitN_lt (d : ByteArray) (i : Nat) : bitN d i < 2 := Nat.mod_lt _ (by decide)
theorem bitN_eq (d : ByteArray) (i : Nat) : bitN d i = if bitB d i then 1 else 0 := by
  have := bitN_lt d i
  unfold bitB
  rcases Nat.lt_or_ge (bitN d i) 1 with h | h
  · have : bitN d i = 0 := by omega
    rw [this]; rfl
  · have : bitN d i = 1 := by omega
    rw [this]; rfl

theorem shift_u8 (x : Nat) (s : Nat) (hs : s ≤ 7) : Op.shift .shr .u8 (x : Int) .i64 (s : Int) = pure (.int .u8 ((x / 2 ^ s : Nat) : Int)) := by
  have h1 : min ((s : Int).toNat) IntKind.u8.bits = s := by rw [Int.toNat_natCast]; exact Nat.min_eq_left (by show s ≤ 8; omega)
  simp only [Op.shift, h1]
  rw [if_neg (by omega)]
  congr 2
  rw [Int.fdiv_eq_ediv_of_nonneg _ (Int.pow_nonneg (by omega)), Int.natCast_ediv, Int.natCast_pow]
  rfl
theorem and_one (y : Nat) (hy : y < 256) : bits .and .i64 (y : Int) 1 = ((y % 2 : Nat) : Int) := by
  revert hy; revert y
  decide +kernel
theorem shift_i64 (x : Nat) (s : Nat) (hs : s ≤ 7) : Op.shift .shr .i64 (x : Int) .i64 (s : Int) = pure (.int .i64 ((x / 2 ^ s : Nat) : Int)) := by
  have h1 : min ((s : Int).toNat) IntKind.i64.bits = s := by rw [Int.toNat_natCast]; exact Nat.min_eq_left (by show s ≤ 64; omega)
  simp only [Op.shift, h1]
  rw [if_neg (by omega)]
  congr 2
  rw [Int.fdiv_eq_ediv_of_nonneg _ (Int.pow_nonneg (by omega)), Int.natCast_ediv, Int.natCast_pow]
  rfl


theorem bit_parts (d : ByteArray) (i : Nat) (hi : i / 8 < d.size) (hd : d.size ≤ 100) : ∃ q r s y : Nat, ∃ hq : q < d.size, (i : Int) ≤ 1000 ∧ (i : Int) / 8 = (q : Int) ∧ (i : Int) % 8 = (r : Int) ∧ (7 : Int) - (r : Int) = (s : Int) ∧ IntKind.i64.wrap (s : Int) = (s : Int) ∧ (d[q].toNat : Int) / 2 ^ s = (y : Int) ∧ y < 256 ∧ y % 2 = bitN d i ∧ s ≤ 7 := by
  have hb := d[i / 8].toNat_lt
  refine ⟨i / 8, i % 8, 7 - i % 8, d[i / 8].toNat / 2 ^ (7 - i % 8), hi, by omega, by omega, by omega, by omega, IntWalk.i64_in _ (by omega), by rw [Int.natCast_ediv, Int.natCast_pow]; rfl, Nat.lt_of_le_of_lt (Nat.div_le_self _ _) hb, ?_, by omega⟩
  unfold bitN
  rw [List.getElem?_eq_getElem (by simpa using hi)]
  rfl

theorem ret_int {k : IntKind} {a b : Int} (h : a = b) : Ending.returned (.int k a) = .returned (.int k b) := by rw [h]
set_option maxHeartbeats 1000000 in
set_option maxRecDepth 100000 in
theorem sha_bit (d : ByteArray) (i : Nat) (hi : i / 8 < d.size) (hd : d.size ≤ 100) (w : World) :
    Calls Tryz.prog 130 #[.string d, .int .i64 (i : Int)] w fun e w' => e = .returned (.int .i64 (bitN d i : Int)) ∧ w' = w := by
  obtain ⟨q, r, s, y, hq, hi1, e1, e2, e3, e4, e5, hy, hb, hs⟩ := bit_parts d i hi hd
  have hi0 : (0 : Int) ≤ (i : Int) := Int.natCast_nonneg _
  have hqs : (q : Int) < (d.size : Int) := by omega
  have hq0 : (0 : Int) ≤ (q : Int) := Int.natCast_nonneg _
  have hy0 : (0 : Int) ≤ (y : Int) := Int.natCast_nonneg _
  have hy1 : (y : Int) < 256 := by omega
  have hs0 : (0 : Int) ≤ (s : Int) := Int.natCast_nonneg _
  have hs1 : (s : Int) ≤ 7 := by omega
  have k2 := and_one y hy
  rw [hb] at k2
  obtain ⟨v, hv⟩ : ∃ v, bitN d i = v := ⟨_, rfl⟩
  rw [hv] at k2 ⊢
  clear hb hv hy hs hi hd
  go_enter Tryz.func130, Tryz.ntmps130
  go_wp2_with fail
  go_ret
  exact ⟨rfl, rfl⟩
set_option maxHeartbeats 1000000 in
set_option maxRecDepth 100000 in
theorem ref_bit (d : ByteArray) (i : Nat) (hi : i / 8 < d.size) (hd : d.size ≤ 100) (w : World) :
    Calls Tryz.prog 207 #[.string d, .int .i64 (i : Int)] w fun e w' => e = .returned (.int .i64 (bitN d i : Int)) ∧ w' = w := by
  obtain ⟨q, r, s, y, hq, hi1, e1, e2, e3, e4, e5, hy, hb, hs⟩ := bit_parts d i hi hd
  have hi0 : (0 : Int) ≤ (i : Int) := Int.natCast_nonneg _
  have hi2 : (i : Int) < 8 * (d.size : Int) := by omega
  have hd0 : (d.size : Int) ≤ 100 := by omega
  have hqs : (q : Int) < (d.size : Int) := by omega
  have hq0 : (0 : Int) ≤ (q : Int) := Int.natCast_nonneg _
  have hy0 : (0 : Int) ≤ (y : Int) := Int.natCast_nonneg _
  have hy1 : (y : Int) < 256 := by omega
  have hs0 : (0 : Int) ≤ (s : Int) := Int.natCast_nonneg _
  have hs1 : (s : Int) ≤ 7 := by omega
  have k5 : (y : Int) % 2 = (bitN d i : Int) := by omega
  have hx := d[q].toNat_lt
  have hx1 : (d[q].toNat : Int) < 256 := by omega
  obtain ⟨v, hv⟩ : ∃ v, bitN d i = v := ⟨_, rfl⟩
  rw [hv] at k5 ⊢
  clear hb hv hy hs hi hd hx
  go_enter Tryz.func207, Tryz.ntmps207
  go_wp2_with fail
  go_ret
  exact ⟨ret_int k5, rfl⟩
end Go.Proofs.YtlmhphejgahfbaaGreatDoor
