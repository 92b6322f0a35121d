/- Layer 14 (tx): Writes. -/
import Derived.Test.YtkcppngopdiljaaTx3
import Derived.Test.YtkcppngopdiljaaKeysW
import Derived.Test.YtkcppngopdiljaaStore3o
set_option linter.unusedVariables false
set_option linter.unusedSimpArgs false
namespace Go.Proofs.Ytkcppngopdiljaa
open Go.RowKit

/-- A write whose row is one's own. -/
def tWrO : Ty Wr := Ty.iso (Ty.pair Ty.str (Ty.pair (Ty.own Ty.u8 5) Ty.bool)) fun x => (x.key, x.row, x.gone)
theorem tWrO_open {w : World} {F : Nat → Prop} {x : Wr} {cs : List Value} (h : tWrO.K w F x cs) :
    ∃ A c, cs = [.string x.key, .slice A x.row.length c, .bool x.gone] ∧ Ow Ty.u8 5 w F (.slice A x.row.length c) x.row := by
  obtain ⟨_, _, rfl, rfl, _, _, rfl, ⟨A, c, rfl, h1⟩, rfl⟩ := h
  exact ⟨A, c, rfl, h1⟩
theorem tWrO_mk {w : World} {F : Nat → Prop} {a : ByteArray} {r : Bs} {g : Bool} {A : Option Addr} {c : Nat} (h : Ow Ty.u8 5 w F (.slice A r.length c) r) :
    tWrO.K w F ⟨a, r, g⟩ [.string a, .slice A r.length c, .bool g] :=
  ⟨[_], [_, _], rfl, rfl, [_], [_], rfl, ⟨A, c, rfl, h⟩, rfl⟩
theorem info_wrv : (Try.prog.info? 43).map (fun i => (i.zero, i.size, i.bytes)) = some (some (.agg #[.string ⟨#[]⟩, .slice none 0 0, .bool false]), 3, 48) := by kernel_rfl
theorem wfind_at {ws : List Wr} (hr : Rising (ws.map Wr.key)) {i : Nat} (hi : i < ws.length) : wfind ws[i].key ws = some ws[i] := by
  cases hf : wfind ws[i].key ws with
  | none => exact absurd (List.mem_map_of_mem (List.getElem_mem hi)) (wfind_none.1 hf)
  | some y =>
    obtain ⟨hm, he⟩ := wfind_some hf
    obtain ⟨j, hj, rfl⟩ := List.getElem_of_mem hm
    have hn := hr.nodup
    have : j = i := by
      rcases Nat.lt_trichotomy j i with h | h | h
      · exact absurd he (by have := List.pairwise_iff_getElem.1 hn j i (by simpa using hj) (by simpa using hi) h; simpa using this)
      · exact h
      · exact absurd he.symm (by have := List.pairwise_iff_getElem.1 hn i j (by simpa using hi) (by simpa using hj) h; simpa using this)
    subst this
    rfl

theorem tx_writes_nil (w : World) : Calls Try.prog 14 #[.pointer none] w fun e w' => e = .returned (.slice none 0 0) ∧ w' = w := by
  go_enter Try.func14, Try.ntmps14
  go_wp2
  go_ret
  exact ⟨rfl, rfl⟩

set_option maxHeartbeats 2000000 in
set_option maxRecDepth 100000 in
theorem tx_writes {w : World} {F : Nat → Prop} {xb : Nat} {base : Int} {ws : List Wr} (h : TxAt w F xb base ws) (hl : ws.length ≤ 1000000) (hk : ∀ x ∈ ws, x.key.size ≤ 1000000000 ∧ x.row.length ≤ 1000000000) :
    Calls Try.prog 14 #[.pointer (some ⟨xb, 0, none⟩)] w fun e w' => ∃ A c, e = .returned (.slice A ws.length c) ∧ Ow tWrO 43 w' (fun i => w.heap.size ≤ i) (.slice A ws.length c) ws ∧ Fr No w w' := by
  obtain ⟨h1, mb, l, h2, h3, h4, h5, h6⟩ := h
  have hkeys := keysW_ok mb l (ws.map Wr.key) w h5 h6.rising h6.look_iff (fun k hk' => by
    obtain ⟨x, hx, rfl⟩ := List.mem_map.1 hk'
    have := (hk x hx).1
    unfold maxLen; omega) (by rw [List.length_map]; omega)
  have a1 := blk_cell h4 1
  simp at a1
  have hlI : (ws.length : Int) ≤ 1000000 := by omega
  have H := Lib.hid (And.intro hkeys (And.intro h4 (And.intro h5 (And.intro (h6.mono fun i hi hl => (⟨hi.1, hl⟩ : F i ∧ i < w.heap.size)) hk))))
  clear hkeys h1 h2 h3 h4 h5 h6 hk
  go_enter Try.func14, Try.ntmps14
  go_wp2_with fail
  refine H.out.1.1.mono ?_
  rintro e1 w1 ⟨rfl, rfl⟩
  go_wp2_with fail
  refine H.out.1.2.mono ?_
  rintro e2 w2 ⟨A, c, rfl, ho, hf2⟩
  rw [List.length_map] at ho ⊢
  have HO := Lib.hid (And.intro (ho.rd.2.2.mono fun i hi hl => (⟨hi, hl⟩ : w.heap.size ≤ i ∧ i < w2.heap.size)) hf2)
  clear ho hf2
  go_wp2_with fail
  go_loopw [3, 16] (fun v i wr => ∃ (k : Nat) (A3 : Option Addr) (c3 : Nat), k ≤ ws.length ∧ i = .int .i64 k ∧ v = .slice A3 k c3 ∧ Hid (Ow tWrO 43 wr (fun i => w2.heap.size ≤ i) (.slice A3 k c3) (ws.take k)) ∧ Hid (Fr No w2 wr)) (fun _ i _ => ws.length - (intOf i).toNat)
  case atStart => exact ⟨0, none, 0, Nat.zero_le _, rfl, rfl, by show Ow _ _ _ _ _ _; simpa using Ow.nil, Fr.refl _ _⟩
  case round =>
    obtain ⟨k, A3, c3, hk, rfl, rfl, hO, hf⟩ := hrel
    have hq0 : (0 : Int) ≤ (k : Int) := Int.natCast_nonneg _
    have hwr : Fr No w wr := HO.out.2.trans (hf.out.mono fun _ _ f => f.elim)
    have a1 := hwr.cell a1 (fun f => f)
    by_cases hlt : k < ws.length
    · have hq1 : (k : Int) < (ws.length : Int) := by omega
      obtain ⟨ad, rfl, x0⟩ := str_at (HO.out.1.fr0 hf.out) (i := k) (by simpa using hlt)
      rw [List.getElem_map] at x0
      obtain ⟨v, hv, A4, c4, rfl, hc4, hr4⟩ := H.out.2.2.2.1.some_ _ _ (wfind_at H.out.2.2.2.1.rising hlt)
      have hrow := (H.out.2.2.2.2 _ (List.getElem_mem hlt)).2
      have hrun := (run_map_look (P := Try.prog) (w := wr) (H.out.2.2.1.stab (hwr.block _ H.out.2.2.1.lt (fun f => f))) 73 _ _ Try.underlying73 Try.underlying9 _ (zero_wr wr) ws[k].key).1
      rw [hv] at hrun
      simp only [Option.getD_some] at hrun
      have htk : ws.take (k + 1) = ws.take k ++ [ws[k]] := List.take_succ_eq_append_getElem hlt
      have hlk : (ws.take k).length = k := by rw [List.length_take]; omega
      obtain ⟨x, hx⟩ : ∃ x, ws[k] = x := ⟨_, rfl⟩
      rw [hx] at x0 hc4 hr4 hrow hrun htk
      obtain ⟨W, hW⟩ : ∃ W, W = wr.alloc (.cells #[.string x.key, .slice A4 x.row.length c4, .bool x.gone] 43) := ⟨_, rfl⟩
      have hfW : Fr No wr W := by rw [hW]; exact (Fr.refl No wr).alloc _
      have hbW : W.heap[wr.heap.size]? = some (.cells #[.string x.key, .slice A4 x.row.length c4, .bool x.gone] 43 (0, 0)) := by rw [hW]; exact heap_alloc_new wr _
      have hcl := clone_ok (w := W) (c := c4) ((hr4.fr0 hwr).fr0 hfW) rfl (by omega)
      have HT := Lib.hid (And.intro htk (And.intro hlk (And.intro hcl (And.intro hbW (And.intro hfW hwr)))))
      clear htk hlk hcl hbW hfW hwr hc4 hr4 hrow hv hx
      go_wp2_with fail
      rw [← hW]
      clear hW
      refine HT.out.2.2.1.mono ?_
      rintro e5 w5 ⟨A5, c5, rfl, ho5, hf5⟩
      have hb5 := hf5.blk HT.out.2.2.2.1 (fun f => f)
      have k0 := blk_cell hb5 0
      have k1 := blk_cell hb5 1
      have k2 := blk_cell hb5 2
      have z1 := blk_frozen hb5 1
      simp at k0 k1 k2
      have hlt5 : wr.heap.size < w5.heap.size := blk_lt hb5
      have hwl : w2.heap.size ≤ wr.heap.size := hf.out.size
      have hWl : wr.heap.size < W.heap.size := blk_lt HT.out.2.2.2.1
      have hnw := heap_alloc_new (w5.setCell ⟨wr.heap.size, 1, none⟩ (.slice A5 x.row.length c5)) (.cells #[.string x.key, .slice A5 x.row.length c5, .bool x.gone] 43)
      rw [show (w5.setCell ⟨wr.heap.size, 1, none⟩ (.slice A5 x.row.length c5)).heap.size = w5.heap.size by simp [World.setCell]] at hnw
      have hs6 : ((w5.setCell ⟨wr.heap.size, 1, none⟩ (.slice A5 x.row.length c5)).alloc (.cells #[.string x.key, .slice A5 x.row.length c5, .bool x.gone] 43)).heap.size = w5.heap.size + 1 := by simp [World.setCell]
      have hO6 : Ow tWrO 43 ((w5.setCell ⟨wr.heap.size, 1, none⟩ (.slice A5 x.row.length c5)).alloc (.cells #[.string x.key, .slice A5 x.row.length c5, .bool x.gone] 43)) (fun i => w2.heap.size ≤ i ∧ i ≠ wr.heap.size) (.slice A3 k c3) (ws.take k) :=
        ((((hO.out.mono fun i hi hl => (⟨hi, by omega⟩ : w2.heap.size ≤ i ∧ i ≠ wr.heap.size)).fr0 HT.out.2.2.2.2.1).fr0 hf5).set ⟨wr.heap.size, 1, none⟩ (fun h => h.2 rfl) _).fr0 ((Fr.refl No _).alloc _)
      have hR6 : Ow Ty.u8 5 ((w5.setCell ⟨wr.heap.size, 1, none⟩ (.slice A5 x.row.length c5)).alloc (.cells #[.string x.key, .slice A5 x.row.length c5, .bool x.gone] 43)) (fun i => W.heap.size ≤ i) (.slice A5 x.row.length c5) x.row :=
        ((ho5).set ⟨wr.heap.size, 1, none⟩ (fun h => by have h' : W.heap.size ≤ wr.heap.size := h; omega) _).fr0 ((Fr.refl No _).alloc _)
      have hf6 : Fr No w2 ((w5.setCell ⟨wr.heap.size, 1, none⟩ (.slice A5 x.row.length c5)).alloc (.cells #[.string x.key, .slice A5 x.row.length c5, .bool x.gone] 43)) :=
        ((hf.out.trans ((HT.out.2.2.2.2.1.trans (hf5.mono fun _ _ f => f.elim)).mono fun _ _ f => f.elim)).set ⟨wr.heap.size, 1, none⟩ (.inr hwl) _).alloc _
      have hnb : ∀ j, (Value.slice A3 k c3).ownBlock = some j → w2.heap.size ≤ j ∧ j < wr.heap.size := fun j hj => hO.out.own hj
      have H5 := Lib.hid (And.intro hO6 (And.intro hR6 (And.intro hf6 (And.intro hnb (And.intro hnw (And.intro hs6 hf5.size))))))
      have hki : ((k : Int) + 1) * 48 ≤ 140737488355328 := by omega
      clear ho5 hf5 hb5 hnw hs6 hO6 hR6 hf6 hnb
      go_wp2_with (at_builtin; refine ow_append tWrO (ys := [x]) H5.out.1 _ _ (.agg #[.string ⟨#[]⟩, .slice none 0 0, .bool false]) 48 rfl rfl Try.underlying29 info_wrv rfl (by decide) (by decide) rfl rfl rfl (Row.single (tWrO_mk (a := x.key) (r := x.row) (g := x.gone) (A := A5) (c := c5) (H5.out.2.1.mono fun i hi hl => ?qf))) (At.block H5.out.2.2.2.2.1) ?ql ?_
                   case qf =>
                     have hi' : W.heap.size ≤ i := hi
                     exact ⟨⟨by omega, by omega⟩, fun he => by have := H5.out.2.2.2.1 i he; omega⟩
                   case ql => rw [HT.out.2.1]; simp; omega
                   intro A7 c7 w7 hown7 hg7 hat7
                   have hlen7 : (ws.take k).length + [x].length = k + 1 := by rw [HT.out.2.1]; rfl
                   rw [hlen7] at hown7 hat7 ⊢
                   have hown8 : Ow tWrO 43 w7 (fun i => w2.heap.size ≤ i) (.slice A7 (k + 1) c7) (ws.take k ++ [x]) := hown7.mono fun i hi _ => by
                     rcases hi with hi | hi
                     · exact hi.1
                     · have h1 := H5.out.2.2.2.2.2.1; have h2 := H5.out.2.2.2.2.2.2; rw [h1] at hi; show w2.heap.size ≤ i; omega
                   have hf8 : Fr No w2 w7 := H5.out.2.2.1.grown hg7 fun j hj => .inr (H5.out.2.2.2.1 j hj).1
                   have H8 := Lib.hid (And.intro hown8 hf8)
                   clear hown7 hg7 hat7 hown8 hf8 hlen7)
      go_roundw
      case rel => exact ⟨k + 1, A7, c7, by omega, by go_num, rfl, by rw [HT.out.1]; exact H8.out.1, H8.out.2⟩
      case measure => simp [intOf]; omega
    · obtain rfl : k = ws.length := by omega
      have hOe := hO.out
      rw [List.take_length] at hOe
      have HE := Lib.hid (And.intro hOe hwr)
      clear hOe hwr
      go_wp2_with fail
      go_ret
      exact ⟨_, _, rfl, HE.out.1.mono fun i hi _ => by have := HO.out.2.size; have hi' : w2.heap.size ≤ i := hi; show w.heap.size ≤ i; omega, HE.out.2⟩
end Go.Proofs.Ytkcppngopdiljaa
