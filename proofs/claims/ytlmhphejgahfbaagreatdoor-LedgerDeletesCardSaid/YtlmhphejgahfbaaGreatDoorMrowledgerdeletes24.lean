/- Texts of this claim, one behind the other: Form, Form2. -/
import Derived.Test.YtlmhphejgahfbaaGreatDoorMrowledgerdeletes22
import Derived.Test.YtlmhphejgahfbaaGreatDoorMrowledgerdeletes23
/- Layer 15 (ledger): Form. -/
set_option linter.unusedVariables false
set_option linter.unusedSimpArgs false
namespace Go.Proofs.YtlmhphejgahfbaaGreatDoor
open Go.RowKit

/-- Numbers of transactions, in a slice. -/
def IdsAt (w : World) (F : Nat → Prop) (A : Option Addr) (ids : List Int) : Prop := ids.length ≤ 1000 ∧ (ids = [] ∨ ∃ b o, A = some ⟨b, o, none⟩ ∧ F b ∧ ∀ j, j < ids.length → w.cell? ⟨b, o + j, none⟩ = some (.int .i64 (ids.getD j 0)))
theorem IdsAt.fr {S F : Nat → Prop} {w w' : World} {A : Option Addr} {ids : List Int} (h : IdsAt w F A ids) (f : Fr S w w') (hd : ∀ i, F i → ¬ S i) : IdsAt w' F A ids := by
  refine ⟨h.1, ?_⟩
  rcases h.2 with h2 | ⟨b, o, e, hF, hc⟩
  · exact .inl h2
  · exact .inr ⟨b, o, e, hF, fun j hj => f.cell (hc j hj) (hd _ hF)⟩
theorem IdsAt.fr0 {F : Nat → Prop} {w w' : World} {A : Option Addr} {ids : List Int} (h : IdsAt w F A ids) (f : Fr No w w') : IdsAt w' F A ids := h.fr f fun _ _ f => f
theorem info_err : (Tryz.prog.info? 24).map (fun i => (i.zero, i.size, i.bytes)) = some (some (.int .i64 0), 1, 8) := by kernel_rfl

/-- What Form has so far: the blocks at B: the result's, the batch's, the keys' map. -/
structure FI (w : World) (B : Nat) (N : Int) (errs : List Int) (wrs : List Wr) (Ao : Option Addr) (co : Nat) (Aw : Option Addr) (cw : Nat) (wr : World) : Prop where
  out : Ow (Ty.int .i64) 24 wr (fun i => B + 3 ≤ i) (.slice Ao errs.length co) errs
  ws : Ow tWrO 117 wr (fun i => B + 3 ≤ i ∧ (Value.slice Ao errs.length co).ownBlock ≠ some i) (.slice Aw wrs.length cw) wrs
  blk : wr.heap[B + 1]? = some (.cells #[.int .i64 N, .slice Aw wrs.length cw] 69 (0, 0))
  res : wr.heap[B]? = some (.cells #[.int .i64 0, .slice none 0 0] 69 (0, 0))
  map : MapIs wr (B + 1 + 1) (namesM (wrs.map Wr.key))
  fr : Fr No w wr
  siz : B + 3 ≤ wr.heap.size
  base : w.heap.size ≤ B
section
variable {w wr w' : World} {B : Nat} {N : Int} {errs : List Int} {wrs : List Wr} {Ao Aw : Option Addr} {co cw : Nat}
theorem FI.fr0 (h : FI w B N errs wrs Ao co Aw cw wr) (f : Fr No wr w') : FI w B N errs wrs Ao co Aw cw w' :=
  ⟨h.out.fr0 f, h.ws.fr0 f, f.blk h.blk (fun f => f), f.blk h.res (fun f => f), h.map.stab (f.block _ h.map.lt (fun f => f)), h.fr.next f (fun _ _ f => f.elim), Nat.le_trans h.siz f.size, h.base⟩
theorem FI.addErr (h : FI w B N errs wrs Ao co Aw cw wr) {W w1 : World} {e : Int} {A1 : Option Addr} {c1 : Nat} (hf : Fr No wr W) (ho : Ow (Ty.int .i64) 24 w1 (fun i => B + 3 ≤ i ∨ W.heap.size ≤ i) (.slice A1 (errs ++ [e]).length c1) (errs ++ [e])) (hg : W.grownBy w1 (Value.slice Ao errs.length co).ownBlock)
    (hat : (Value.slice A1 (errs ++ [e]).length c1).ownBlock = (Value.slice Ao errs.length co).ownBlock ∨ (Value.slice A1 (errs ++ [e]).length c1).ownBlock = some W.heap.size) : FI w B N (errs ++ [e]) wrs A1 c1 Aw cw w1 := by
  have hz := hf.size
  have hs := h.siz
  have hown : ∀ k, (Value.slice Ao errs.length co).ownBlock = some k → B + 3 ≤ k := fun k hk => (h.out.own hk).1
  have hfg : Fr (fun i => (Value.slice Ao errs.length co).ownBlock = some i) wr w1 := (hf.mono fun _ _ f => f.elim).grown hg fun k hk => .inl hk
  have hb := h.base
  refine ⟨ho.mono fun i hi _ => by rcases hi with hi | hi; exact hi; show B + 3 ≤ i; omega, ?_, hfg.blk h.blk (fun e => by have := hown _ e; omega), hfg.blk h.res (fun e => by have := hown _ e; omega), h.map.stab (hfg.block _ h.map.lt (fun e => by have := hown _ e; omega)), h.fr.next hfg (fun i hi e => by have := hown _ e; omega), Nat.le_trans h.siz hfg.size, h.base⟩
  have h1 := (h.ws.mono (G := fun i => (B + 3 ≤ i ∧ (Value.slice Ao errs.length co).ownBlock ≠ some i) ∧ i < wr.heap.size) fun i hi hl => ⟨hi, hl⟩).fr hfg (fun k hk e => hk.1.2 e)
  refine h1.mono fun i hi hl => ⟨hi.1.1, fun e2 => ?_⟩
  rcases hat with hat | hat
  · rw [hat] at e2; exact hi.1.2 e2
  · rw [hat] at e2
    have h3 : W.heap.size = i := Option.some.inj e2
    have := hi.2
    omega
theorem FI.addW (h : FI w B N errs wrs Ao co Aw cw wr) {W2 w3 W4 w5 : World} {x : Wr} {A5 : Option Addr} {c5 : Nat} (hf2 : Fr No wr W2) (hm : MapIs w3 (B + 1 + 1) (namesM ((wrs ++ [x]).map Wr.key))) (hf3 : Fr (fun i => i = B + 1 + 1) W2 w3) (hf4 : Fr No w3 W4)
    (ho : Ow tWrO 117 w5 (fun i => (B + 3 ≤ i ∧ (Value.slice Ao errs.length co).ownBlock ≠ some i) ∨ W4.heap.size ≤ i) (.slice A5 (wrs ++ [x]).length c5) (wrs ++ [x])) (hg : W4.grownBy w5 (Value.slice Aw wrs.length cw).ownBlock) :
    FI w B N errs (wrs ++ [x]) Ao co A5 c5 (w5.setCell ⟨B + 1, 1, none⟩ (.slice A5 (wrs ++ [x]).length c5)) := by
  have hs := h.siz
  have hb := h.base
  have z2 := hf2.size
  have z3 := hf3.size
  have z4 := hf4.size
  have hown : ∀ k, (Value.slice Aw wrs.length cw).ownBlock = some k → B + 3 ≤ k ∧ (Value.slice Ao errs.length co).ownBlock ≠ some k := fun k hk => (h.ws.own hk).1
  have hf34 : Fr (fun i => i = B + 1 + 1) wr W4 := ((hf2.mono fun _ _ f => f.elim).trans (hf3.mono fun _ _ e => .inl e)).next hf4 (fun _ _ f => f.elim)
  have hf5 : Fr (fun i => i = B + 1 + 1 ∨ (Value.slice Aw wrs.length cw).ownBlock = some i) wr w5 := (hf34.mono fun _ _ e => .inl e).grown hg fun k hk => .inl (.inr hk)
  have hS : Fr (fun i => i = B + 1) w5 (w5.setCell ⟨B + 1, 1, none⟩ (.slice A5 (wrs ++ [x]).length c5)) := (Fr.refl (fun i => i = B + 1) w5).set ⟨B + 1, 1, none⟩ (.inl rfl) _
  have hout : ∀ k, (Value.slice Ao errs.length co).ownBlock = some k → B + 3 ≤ k ∧ k < wr.heap.size := fun k hk => h.out.own hk
  refine ⟨?_, ?_, ?_, ?_, ?_, ?_, ?_, h.base⟩
  · obtain ⟨cs, q1, q2, q3⟩ := h.out
    have ht : Ow (Ty.int .i64) 24 wr (fun i => (Value.slice Ao errs.length co).ownBlock = some i) (.slice Ao errs.length co) errs := ⟨cs, q1, q2.imp fun _ _ h => h, fun k hk => hk⟩
    refine ((ht.fr hf5 fun k hk e => ?_).fr hS fun k hk e => ?_).mono fun i hi hl => (hout i hi).1
    · have := (hout k hk).1
      rcases e with e | e
      · omega
      · exact (hown k e).2 hk
    · have := (hout k hk).1
      omega
  · refine (ho.mono (G := fun i => B + 3 ≤ i ∧ (Value.slice Ao errs.length co).ownBlock ≠ some i) fun i hi hl => ?_).fr hS fun k hk e => by have := hk.1; omega
    rcases hi with hi | hi
    · exact hi
    · exact ⟨by omega, fun e => by have := (hout i e).2; omega⟩
  · have h1 := hf5.blk h.blk (fun e => by rcases e with e | e; omega; have := (hown _ e).1; omega)
    have := blk_set h1 1 (.slice A5 (wrs ++ [x]).length c5)
    simpa using this
  · exact hS.blk (hf5.blk h.res (fun e => by rcases e with e | e; omega; have := (hown _ e).1; omega)) (fun e => by omega)
  · have hmlt := hm.lt
    have h1 := hm.stab (hf4.block _ hm.lt (fun f => f))
    have h2 : MapIs w5 (B + 1 + 1) (namesM ((wrs ++ [x]).map Wr.key)) := h1.stab (((Fr.refl (fun i => (Value.slice Aw wrs.length cw).ownBlock = some i) W4).grown hg fun k hk => .inl hk).block _ (by omega) (fun e => by have := (hown _ e).1; omega))
    have z5 := hg.size
    exact h2.stab (hS.block _ (by omega) (fun e => by omega))
  · refine (h.fr.next hf5 fun i hi e => ?_).next hS fun i hi e => ?_
    · rcases e with e | e
      · omega
      · have := (hown _ e).1; omega
    · omega
  · have z5 := hg.size
    have : (w5.setCell ⟨B + 1, 1, none⟩ (.slice A5 (wrs ++ [x]).length c5)).heap.size = w5.heap.size := by simp
    omega
end

theorem FI.run {w wr : World} {B : Nat} {N : Int} {errs : List Int} {wrs : List Wr} {Ao Aw : Option Addr} {co cw : Nat} (h : FI w B N errs wrs Ao co Aw cw wr) (e : Int) (hl : errs.length ≤ 1000) :
    ∃ A1 c1 w1, (Builtin.append_ #[37, 37] 37 #[.slice Ao errs.length co, .slice (some ⟨wr.heap.size, 0, none⟩) 1 1]).run Tryz.prog (wr.alloc (.cells #[.int .i64 e] 24)) = .ok (.slice A1 (errs.length + 1) c1) w1 ∧ FI w B N (errs ++ [e]) wrs A1 c1 Aw cw w1 := by
  have hf1 : Fr No wr (wr.alloc (.cells #[.int .i64 e] 24)) := (Fr.refl No wr).alloc _
  obtain ⟨A1, c1, w1, hrun, hO, hg, hat⟩ := run_ow_append (P := Tryz.prog) (ty := 37) (ty' := 37) (Ty.int .i64) (h.out.fr0 hf1) (.int .i64 0) 8 Tryz.underlying37 info_err rfl (by decide) (by decide) 1 (ys := [e]) (Row.single (t := Ty.int .i64) rfl) (At.block (heap_alloc_new wr _)) (by simp only [List.length_singleton]; omega)
  simp only [List.length_singleton] at hrun hO hat
  refine ⟨A1, c1, w1, hrun, h.addErr (W := wr.alloc (.cells #[.int .i64 e] 24)) hf1 ?_ hg ?_⟩
  · rw [List.length_append]; exact hO
  · rw [List.length_append]; exact hat
/-- A transaction's row of writes, of its own call. -/
theorem wro_at {w : World} {F : Nat → Prop} {A : Option Addr} {ws : List Wr} (h : Rd tWrO w F A ws) {i : Nat} (hi : i < ws.length) :
    ∃ ad A' c', A = some ad ∧ w.cell? (ad.add (i * 3)) = some (.string ws[i].key) ∧ w.cell? ⟨(ad.add (i * 3)).block, (ad.add (i * 3)).off + 1, none⟩ = some (.slice A' ws[i].row.length c') ∧
      w.cell? ⟨(ad.add (i * 3)).block, (ad.add (i * 3)).off + 2, none⟩ = some (.bool ws[i].gone) ∧ Ow Ty.u8 5 w F (.slice A' ws[i].row.length c') ws[i].row := by
  obtain ⟨ad, cs, e, hk, e0, e1⟩ := h.get' hi (by decide)
  obtain ⟨A', c', rfl, h1⟩ := tWrO_open hk
  exact ⟨ad, A', c', e, e0 _ rfl, e1 1 _ (by decide) rfl, e1 2 _ (by decide) rfl, h1⟩
end Go.Proofs.YtlmhphejgahfbaaGreatDoor
/- Layer 15 (ledger): Now, Form. -/
set_option linter.unusedVariables false
set_option linter.unusedSimpArgs false
namespace Go.Proofs.YtlmhphejgahfbaaGreatDoor
open Go.RowKit

set_option maxHeartbeats 400000 in
set_option maxRecDepth 100000 in
theorem led_now {w : World} {col : Nat → Nat} {lb : Nat} {L : Led} (h : LedAt w col lb L) : Calls Tryz.prog 20 #[.pointer (some ⟨lb, 0, none⟩)] w fun e w' => e = .returned (.int .i64 L.s.now) ∧ w' = w := by
  obtain ⟨A, c, sb, mb, vst, l, hP⟩ := h
  have c1 := blk_cell hP.blk 1
  simp at c1
  have H := Lib.hid (store_now hP.sto)
  clear hP
  go_enter Tryz.func20, Tryz.ntmps20
  go_wp2_with fail
  refine H.out.mono ?_
  rintro e w ⟨rfl, rfl⟩
  go_wp2_with fail
  go_ret
  exact ⟨rfl, rfl⟩

set_option maxHeartbeats 4000000 in
set_option maxRecDepth 100000 in
theorem led_form {w : World} {col : Nat → Nat} {lb : Nat} {L : Led} {A : Option Addr} {c sb mb : Nat} {vst : Value} {l : List (Int × Value)} {ids : List Int} {R : Nat → Prop} {Ai : Option Addr} {ci n : Nat} (hP : LedP w col lb L A c sb mb vst l) (hids : IdsAt w R Ai ids) (hn : n = ids.length) (hci : n ≤ ci)
    (hnow0 : 0 ≤ L.s.now) (hnow : L.s.now ≤ 100000000) (hw : ∀ id x, L.find id = some x → x.ws.length ≤ 20) (hk : ∀ id x, L.find id = some x → ∀ y ∈ x.ws, y.key.size ≤ 4000 ∧ y.row.length ≤ 100000) :
    Calls Tryz.prog 30 #[.pointer (some ⟨lb, 0, none⟩), .slice Ai n ci] w fun e w' => ∃ Ao co Aw cw ys, e = .returned (.tuple #[.agg #[.int .i64 (L.s.now + 1), .slice Aw ys.length cw], .slice Ao n co]) ∧
      ys.Perm (L.formN ids n).2 ∧ Rising (ys.map Wr.key) ∧ Ow tWrO 117 w' (fun i => w.heap.size ≤ i) (.slice Aw ys.length cw) ys ∧ Ow (Ty.int .i64) 24 w' (fun i => w.heap.size ≤ i) (.slice Ao n co) (L.formN ids n).1 ∧ Fr No w w' := by
  have hmm := @run_makeMap Tryz.prog
  have hN := fun (w1 : World) (f : Fr No w w1) => led_now ⟨A, c, sb, mb, vst, l, hP.fr0 f⟩
  have hnw : IntKind.i64.wrap (L.s.now + 1) = L.s.now + 1 := IntWalk.i64_in _ (by omega)
  have hn1000 : (n : Int) ≤ 1000 := by have := hids.1; omega
  have hcin : (n : Int) ≤ (ci : Int) := by omega
  have hn0 : (0 : Int) ≤ (n : Int) := Int.natCast_nonneg _
  obtain ⟨now, hnn⟩ : ∃ now, L.s.now = now := ⟨_, rfl⟩
  rw [hnn] at hN hnw hnow0 hnow ⊢
  obtain ⟨W0, hW0⟩ : ∃ W0, W0 = ((w.alloc (.cells #[.int .i64 0, .slice none 0 0] 69)).alloc (.cells #[.int .i64 (now + 1), .slice none 0 0] 69)).alloc (.map #[] 0) := ⟨_, rfl⟩
  have hFI : FI w w.heap.size (now + 1) [] [] none 0 none 0 W0 := by
    have f1 : Fr No w W0 := by rw [hW0]; exact (((Fr.refl No w).alloc _).alloc _).alloc _
    refine ⟨Ow.nil, Ow.nil, ?_, ?_, ?_, f1, by rw [hW0]; simp, Nat.le_refl _⟩
    · rw [hW0, Below.heap_alloc _ _ _ (by simp)]; exact blk_two2 w _ _
    · rw [hW0, Below.heap_alloc _ _ _ (by simp; omega)]; exact blk_two1 w _ _
    · rw [hW0]
      have := MapIs.new ((w.alloc (.cells #[.int .i64 0, .slice none 0 0] 69)).alloc (.cells #[.int .i64 (now + 1), .slice none 0 0] 69))
      simp only [World.size_alloc] at this
      exact this
  have HF0 := Lib.hid hFI
  have H := Lib.hid (And.intro hP (And.intro hids (And.intro hn (And.intro hw (And.intro hk hnn)))))
  have HN := Lib.hid hN
  clear hP hids hw hk hN hFI hn hnn
  go_enter Tryz.func30, Tryz.ntmps30
  go_wp2_with fail
  refine (HN.out _ ((Fr.refl No w).alloc _)).mono ?_
  rintro e w1 ⟨rfl, rfl⟩
  go_wp2_with fail
  rw [← hW0]
  clear hW0
  go_loopw [8, 22] (fun ov iv wr => ∃ (k : Nat) (Ao : Option Addr) (co : Nat), k ≤ n ∧ iv = .int .i64 (k : Int) ∧ ov = .slice Ao k co ∧ Hid (∃ Aw cw, FI w w.heap.size (now + 1) (L.formN ids k).1 (L.formN ids k).2 Ao co Aw cw wr)) (fun _ iv _ => n - (intOf iv).toNat)
  case atStart => exact ⟨0, none, 0, Nat.zero_le _, rfl, rfl, none, 0, HF0.out⟩
  case round =>
    obtain ⟨k, Ao, co, hk, rfl, rfl, I⟩ := hrel
    have hk0 : (0 : Int) ≤ (k : Int) := Int.natCast_nonneg _
    by_cases hlt : k < n
    · have hk1 : (k : Int) < (n : Int) := by omega
      have hlti : k < ids.length := by have := H.out.2.2.1; omega
      obtain ⟨Aw, cw, hI⟩ := I.out
      obtain ⟨ib, io, rfl, hRb, hcell⟩ : ∃ b o, Ai = some ⟨b, o, none⟩ ∧ R b ∧ ∀ j, j < ids.length → wr.cell? ⟨b, o + j, none⟩ = some (.int .i64 (ids.getD j 0)) := by
        rcases (H.out.2.1.fr0 hI.fr).2 with h | ⟨b, o, h1, h2, h3⟩
        · rw [h] at hlti; exact absurd hlti (Nat.not_lt_zero _)
        · exact ⟨b, o, h1, h2, h3⟩
      have x0 := hcell k hlti
      rw [getD_at hlti] at x0
      have hlen := formN_len (L := L) (ids := ids) (k := k) (by omega)
      have hfew := formN_few (L := L) (ids := ids) (k := k) (m := 20) H.out.2.2.2.1 (by omega)
      have hids1000 := H.out.2.1.1
      have hPr := H.out.1.fr0 hI.fr
      cases hfx : L.find ids[k] with
      | none =>
        have hof := led_of ids[k] none hPr.blk hPr.map (hPr.txs.none_ _ hfx)
        obtain ⟨A1, c1, w1, hrun, hF1⟩ := hI.run 6 (by omega)
        rw [hlen] at hrun
        have HH := Lib.hid (And.intro (formN_none hlti hfx) (And.intro hF1 hof))
        obtain ⟨id, hid⟩ : ∃ id, ids[k] = id := ⟨_, rfl⟩
        rw [hid] at x0 HH
        clear hof hF1 hPr hI hcell hlen hfew hfx I hid hids1000
        go_wp2_with (first
          | (go_at_call 46; refine HH.out.2.2.mono ?_; rintro e wr ⟨rfl, rfl⟩)
          | (at_builtin; refine wpList_plain rfl fun K hK => wp_append_run _ _ _ _ rfl rfl rfl hrun (hK _ _ ?_)))
        go_roundw
        case rel => exact ⟨k + 1, A1, c1, by omega, by go_num, rfl, Aw, cw, by rw [HH.out.1]; exact HH.out.2.1⟩
        case measure => simp [intOf]; omega
      | some x =>
        obtain ⟨xb, hlook, hT⟩ := hPr.txs.some_ _ x hfx
        have hof := led_of ids[k] (some ⟨xb, 0, none⟩) hPr.blk hPr.map hlook
        have hcon := Tryz.slices_Contains_int ib io k ci ids ids[k] wr (by omega) (by omega) hcell
        have hkci : (k : Int) ≤ (ci : Int) := by omega
        by_cases hs : ids[k] ∈ ids.take k
        · rw [List.contains_iff_mem.2 hs] at hcon
          obtain ⟨A1, c1, w1, hrun, hF1⟩ := hI.run 6 (by omega)
          rw [hlen] at hrun
          have HH := Lib.hid (And.intro (formN_seen hlti hfx hs) (And.intro hF1 (And.intro hof hcon)))
          obtain ⟨id, hid⟩ : ∃ id, ids[k] = id := ⟨_, rfl⟩
          rw [hid] at x0 HH
          clear hof hF1 hPr hI hcell hlen hfew hfx I hid hids1000 hcon hs hT hlook
          go_wp2_with (first
            | (go_at_call 46; refine HH.out.2.2.1.mono ?_; rintro e wr ⟨rfl, rfl⟩)
            | (go_at_call 71; refine HH.out.2.2.2.mono ?_; rintro e wr ⟨rfl, rfl⟩)
            | (at_builtin; refine wpList_plain rfl fun K hK => wp_append_run _ _ _ _ rfl rfl rfl hrun (hK _ _ ?_)))
          go_roundw
          case rel => exact ⟨k + 1, A1, c1, by omega, by go_num, rfl, Aw, cw, by rw [HH.out.1]; exact HH.out.2.1⟩
          case measure => simp [intOf]; omega
        · have hcf : (ids.take k).contains ids[k] = false := by
            cases hq : (ids.take k).contains ids[k] with
            | false => rfl
            | true => exact absurd (List.contains_iff_mem.1 hq) hs
          rw [hcf] at hcon
          have hlate := tx_late hT hPr.sto (by have := H.out.2.2.2.1 _ _ hfx; omega) (fun y hy => by have := H.out.2.2.2.2.1 _ _ hfx y hy; omega)
          have hmeets := fun (w1 : World) (f : Fr No wr w1) => meets_ok (hT.fr0 f) (hI.map.stab (f.block _ hI.map.lt (fun f => f))) (by have := H.out.2.2.2.1 _ _ hfx; omega) (fun y hy => by have := H.out.2.2.2.2.1 _ _ hfx y hy; omega)
          have l1 := blk_cell hPr.blk 1
          simp at l1
          have hbars : L.bars x (L.formN ids k).2 = ((x.ws.any fun y => decide (x.base < L.s.last y.key)) || x.ws.any fun y => hasK ((L.formN ids k).2.map Wr.key) y.key) := rfl
          cases hb1 : (x.ws.any fun y => decide (x.base < L.s.last y.key)) with
          | true =>
            rw [hb1] at hlate
            rw [hb1, Bool.true_or] at hbars
            have hn2 := formN_bars hlti hfx hs hbars
            have hI2 := hI
            have hlen2 := hlen
            have HI := Lib.hid (And.intro hn2 (And.intro hof (And.intro hcon (And.intro hlate (And.intro hI2 (And.intro hlen2 hids1000))))))
            obtain ⟨id, hid⟩ : ∃ id, ids[k] = id := ⟨_, rfl⟩
            rw [hid] at x0 HI
            clear hof hPr hI hI2 hcell hlen hlen2 hfew hfx I hid hids1000 hcon hs hT hlook hlate hmeets hn2 hbars hcf hb1
            go_wp2_with (first
              | (go_at_call 46; refine HI.out.2.1.mono ?_; rintro e wr ⟨rfl, rfl⟩)
              | (go_at_call 71; refine HI.out.2.2.1.mono ?_; rintro e wr ⟨rfl, rfl⟩)
              | (go_at_call 72; refine HI.out.2.2.2.1.mono ?_; rintro e w5 ⟨rfl, hf5⟩
                 obtain ⟨A1, c1, w1, hrun, hF1⟩ := (HI.out.2.2.2.2.1.fr0 hf5).run 7 (by rw [HI.out.2.2.2.2.2.1]; omega)
                 rw [HI.out.2.2.2.2.2.1] at hrun
                 have HF1 := Lib.hid hF1
                 clear hF1 hf5)
              | (at_builtin; refine wpList_plain rfl fun K hK => wp_append_run _ _ _ _ rfl rfl rfl hrun (hK _ _ ?_)))
            go_roundw
            case rel => exact ⟨k + 1, A1, c1, by omega, by go_num, rfl, Aw, cw, by rw [HI.out.1]; exact HF1.out⟩
            case measure => simp [intOf]; omega
          | false =>
            rw [hb1] at hlate
            rw [hb1, Bool.false_or] at hbars
            cases hb2 : (x.ws.any fun y => hasK ((L.formN ids k).2.map Wr.key) y.key) with
            | true =>
              rw [hb2] at hbars
              have hn2 := formN_bars hlti hfx hs hbars
              have hI2 := hI
              have hlen2 := hlen
              have hmt : ∀ (w1 : World), Fr No wr w1 → Calls Tryz.prog 73 #[.pointer (some ⟨xb, 0, none⟩), .map (some (w.heap.size + 1 + 1))] w1 fun e w' => e = .returned (.bool true) ∧ Fr No w1 w' := fun w1 f => by have := hmeets w1 f; rw [hb2] at this; exact this
              have HI := Lib.hid (And.intro hn2 (And.intro hof (And.intro hcon (And.intro hlate (And.intro hI2 (And.intro hlen2 (And.intro hmt hids1000)))))))
              obtain ⟨id, hid⟩ : ∃ id, ids[k] = id := ⟨_, rfl⟩
              rw [hid] at x0 HI
              clear hof hPr hI hI2 hcell hlen hlen2 hfew hfx I hid hids1000 hcon hs hT hlook hlate hmeets hmt hn2 hbars hcf hb1 hb2
              go_wp2_with (first
                | (go_at_call 46; refine HI.out.2.1.mono ?_; rintro e wr ⟨rfl, rfl⟩)
                | (go_at_call 71; refine HI.out.2.2.1.mono ?_; rintro e wr ⟨rfl, rfl⟩)
                | (go_at_call 72; refine HI.out.2.2.2.1.mono ?_; rintro e w5 ⟨rfl, hf5⟩; have HF5 := Lib.hid hf5; clear hf5)
                | (go_at_call 73; refine (HI.out.2.2.2.2.2.2.1 _ HF5.out).mono ?_; rintro e w6 ⟨rfl, hf6⟩
                   obtain ⟨A1, c1, w1, hrun, hF1⟩ := (HI.out.2.2.2.2.1.fr0 (HF5.out.next hf6 (fun _ _ f => f.elim))).run 7 (by rw [HI.out.2.2.2.2.2.1]; omega)
                   rw [HI.out.2.2.2.2.2.1] at hrun
                   have HF1 := Lib.hid hF1
                   clear hF1 hf6)
                | (at_builtin; refine wpList_plain rfl fun K hK => wp_append_run _ _ _ _ rfl rfl rfl hrun (hK _ _ ?_)))
              go_roundw
              case rel => exact ⟨k + 1, A1, c1, by omega, by go_num, rfl, Aw, cw, by rw [HI.out.1]; exact HF1.out⟩
              case measure => simp [intOf]; omega
            | false =>
              rw [hb2] at hbars
              have hn2 := formN_ok hlti hfx hs hbars
              have hnot := bars_no hbars
              obtain ⟨xb', hlook', hTw⟩ := H.out.1.txs.some_ _ x hfx
              obtain rfl : xb = xb' := by rw [hlook] at hlook'; simpa using hlook'
              have hwx := H.out.2.2.2.1 _ _ hfx
              have hkx := H.out.2.2.2.2.1 _ _ hfx
              have hwr := fun (w1 : World) (f : Fr No w w1) => tx_writes (hTw.fr0 f) (by omega) (fun y hy => by have := hkx y hy; omega)
              have hI2 := hI
              have hlen2 := hlen
              have hmt : ∀ (w1 : World), Fr No wr w1 → Calls Tryz.prog 73 #[.pointer (some ⟨xb, 0, none⟩), .map (some (w.heap.size + 1 + 1))] w1 fun e w' => e = .returned (.bool false) ∧ Fr No w1 w' := fun w1 f => by have := hmeets w1 f; rw [hb2] at this; exact this
              have hxr := hTw.rising
              have HI := Lib.hid (And.intro hn2 (And.intro hof (And.intro hcon (And.intro hlate (And.intro hI2 (And.intro hlen2 (And.intro hmt (And.intro hids1000 (And.intro hwr (And.intro hnot (And.intro hxr hfew)))))))))))
              obtain ⟨id, hid⟩ : ∃ id, ids[k] = id := ⟨_, rfl⟩
              rw [hid] at x0 HI
              have hwxi : (x.ws.length : Int) ≤ 20 := by omega
              clear hof hPr hI hI2 hcell hlen hlen2 hfew hfx I hid hids1000 hcon hs hT hlook hlook' hlate hmeets hmt hn2 hbars hcf hb1 hb2 hTw hwr hnot hxr hkx
              go_wp2_with (first
                | (go_at_call 46; refine HI.out.2.1.mono ?_; rintro e wr ⟨rfl, rfl⟩)
                | (go_at_call 71; refine HI.out.2.2.1.mono ?_; rintro e wr ⟨rfl, rfl⟩)
                | (go_at_call 72; refine HI.out.2.2.2.1.mono ?_; rintro e w5 ⟨rfl, hf5⟩; have HF5 := Lib.hid hf5; clear hf5)
                | (go_at_call 73; refine (HI.out.2.2.2.2.2.2.1 _ HF5.out).mono ?_; rintro e w6 ⟨rfl, hf6⟩
                   obtain ⟨A1, c1, w1, hrun, hF1⟩ := (HI.out.2.2.2.2.1.fr0 (HF5.out.next hf6 (fun _ _ f => f.elim))).run 0 (by rw [HI.out.2.2.2.2.2.1]; omega)
                   rw [HI.out.2.2.2.2.2.1] at hrun
                   have HF1 := Lib.hid hF1
                   clear hF1 hf6)
                | (at_builtin; refine wpList_plain rfl fun K hK => wp_append_run _ _ _ _ rfl rfl rfl hrun (hK _ _ ?_))
                | (go_at_call 74; refine (HI.out.2.2.2.2.2.2.2.2.1 _ HF1.out.fr).mono ?_; rintro e w2 ⟨A2, c2, rfl, ho2, hf2⟩
                   have HW2 := Lib.hid (And.intro ho2 hf2)
                   clear ho2 hf2))
              obtain ⟨wo, rfl⟩ : ∃ wo, wo = wr := ⟨_, rfl⟩
              obtain ⟨E, hE⟩ : ∃ E, (L.formN ids k).1 ++ [0] = E := ⟨_, rfl⟩
              obtain ⟨V, hV⟩ : ∃ V, (L.formN ids k).2 = V := ⟨_, rfl⟩
              have hstart := HF1.out.fr0 HW2.out.2
              have hn3 := HI.out.1
              have hlenE : E.length = k + 1 := by rw [← hE, List.length_append, HI.out.2.2.2.2.2.1]; rfl
              have hVlen : V.length ≤ 20 * k := by rw [← hV]; exact HI.out.2.2.2.2.2.2.2.2.2.2.2
              have hVn : ∀ y ∈ x.ws, y.key ∉ V.map Wr.key := by rw [← hV]; exact HI.out.2.2.2.2.2.2.2.2.2.1
              have hs1 := HF1.out.siz
              have hown1 : ∀ i, (Value.slice A1 E.length c1).ownBlock = some i → i < w1.heap.size := fun i hi => by have h1 := HF1.out.out; rw [hE] at h1; exact (h1.own hi).2
              have hownw : ∀ i, (Value.slice Aw V.length cw).ownBlock = some i → i < w1.heap.size := fun i hi => by have h1 := HF1.out.ws; rw [hV] at h1; exact (h1.own hi).2
              rw [hE, hV] at hstart hn3
              have HS := Lib.hid (And.intro hstart (And.intro hn3 (And.intro hVn (And.intro hVlen (And.intro hs1 (And.intro hown1 (And.intro hownw (And.intro HI.out.2.2.2.2.2.2.2.2.2.2.1 (And.intro HI.out.2.2.2.2.2.2.2.1 hlenE)))))))))
              clear hstart hn3 hVn hVlen hs1 hown1 hownw hE hV HI HF1 HF5 hlenE
              go_loopw [68] (fun iv wr => ∃ j : Nat, j ≤ x.ws.length ∧ iv = .int .i64 (j : Int) ∧ Hid (∃ Av cv, FI w w.heap.size (now + 1) E (V ++ x.ws.take j) A1 c1 Av cv wr ∧ Rd tWrO wr (fun i => w1.heap.size ≤ i ∧ i < w2.heap.size) A2 x.ws ∧ (∀ i, (Value.slice Av (V ++ x.ws.take j).length cv).ownBlock = some i → i < w1.heap.size ∨ w2.heap.size ≤ i) ∧ w2.heap.size ≤ wr.heap.size)) (fun iv _ => x.ws.length - (intOf iv).toNat)
              case atStart => exact ⟨0, Nat.zero_le _, rfl, Aw, cw, by simpa using HS.out.1, HW2.out.1.rd.2.2.mono fun i hi hl => ⟨hi, hl⟩, by simpa using fun i hi => .inl (HS.out.2.2.2.2.2.2.1 i hi), Nat.le_refl _⟩
              case round =>
                obtain ⟨j, hj, rfl, J⟩ := hrel
                have hj0 : (0 : Int) ≤ (j : Int) := Int.natCast_nonneg _
                by_cases hjlt : j < x.ws.length
                · have hj1 : (j : Int) < (x.ws.length : Int) := by omega
                  obtain ⟨Av, cv, hJ, hJr, hJo, hJz⟩ := J.out
                  obtain ⟨ad, D, cr, rfl, y0, y1, y2, hrow⟩ := wro_at hJr hjlt
                  have hkey : (x.ws[j]).key ∉ (V ++ x.ws.take j).map Wr.key := by
                    rw [List.map_append, List.mem_append]
                    rintro (h | h)
                    · exact HS.out.2.2.1 _ (List.getElem_mem hjlt) h
                    · obtain ⟨z, hz, e⟩ := List.mem_map.1 h
                      obtain ⟨q, hq, rfl⟩ := List.mem_take_iff_getElem.1 hz
                      have h3 := List.pairwise_iff_getElem.1 (rising_nodup HS.out.2.2.2.2.2.2.2.1) q j (by simp; omega) (by simpa using hjlt) (by omega)
                      simp at h3
                      exact h3 e
                  have hsucc : (V ++ x.ws.take j) ++ [x.ws[j]] = V ++ x.ws.take (j + 1) := by rw [List.append_assoc, List.take_succ_eq_append_getElem hjlt]
                  have hVl : (V ++ x.ws.take j).length ≤ 21000 := by have := HS.out.2.2.2.1; have := HS.out.2.2.2.2.2.2.2.2.1; rw [List.length_append, List.length_take]; omega
                  obtain ⟨y, hy⟩ : ∃ y, x.ws[j] = y := ⟨_, rfl⟩
                  rw [hy] at y0 y1 y2 hrow hkey hsucc
                  clear hy
                  obtain ⟨U, hU⟩ : ∃ U, V ++ x.ws.take j = U := ⟨_, rfl⟩
                  rw [hU] at hJ hJo hkey hsucc hVl
                  clear hU
                  obtain ⟨ykey, yrow, ygone⟩ := y
                  dsimp only at y0 y1 y2 hrow hkey
                  obtain ⟨W3, hW3⟩ : ∃ W3, W3 = wr.alloc (.cells #[.string ykey, .slice D yrow.length cr, .bool ygone] 117) := ⟨_, rfl⟩
                  have hf3 : Fr No wr W3 := by rw [hW3]; exact (Fr.refl No wr).alloc _
                  have hb3 : W3.heap[wr.heap.size]? = some (.cells #[.string ykey, .slice D yrow.length cr, .bool ygone] 117 (0, 0)) := by rw [hW3]; exact heap_alloc_new wr _
                  have k0 := blk_cell hb3 0
                  simp at k0
                  obtain ⟨W4, hlay, hm4, hf4⟩ := run_map_lay (P := Tryz.prog) (hJ.map.stab (hf3.block _ hJ.map.lt (fun f => f))) 139 9 4 Tryz.underlying139 Tryz.underlying9 ykey (.bool true)
                  rw [lay_names hkey] at hm4
                  have hm4' : MapIs W4 (w.heap.size + 1 + 1) (namesM ((U ++ [(⟨ykey, yrow, ygone⟩ : Wr)]).map Wr.key)) := by rw [List.map_append]; exact hm4
                  have hsz := hJ.siz
                  have hb4 := hf4.blk hb3 (fun e => by omega)
                  have k40 := blk_cell hb4 0
                  have k41 := blk_cell hb4 1
                  have k42 := blk_cell hb4 2
                  have k4b := blk_cell (hf4.blk (hf3.blk hJ.blk (fun f => f)) (fun e => by omega)) 1
                  simp at k40 k41 k42 k4b
                  obtain ⟨W5, hW5⟩ : ∃ W5, W5 = W4.alloc (.cells #[.string ykey, .slice D yrow.length cr, .bool ygone] 117) := ⟨_, rfl⟩
                  have hf5 : Fr No W4 W5 := by rw [hW5]; exact (Fr.refl No W4).alloc _
                  have hA5 : At W5 (some ⟨W4.heap.size, 0, none⟩) [.string ykey, .slice D yrow.length cr, .bool ygone] := by rw [hW5]; exact At.block (heap_alloc_new W4 _)
                  have hf35 : Fr (fun i => i = w.heap.size + 1 + 1) wr W5 := ((hf3.mono fun _ _ f => f.elim).trans (hf4.mono fun _ _ e => .inl e)).next hf5 (fun _ _ f => f.elim)
                  have hOv := hJ.ws.fr hf35 (fun i hi e => by have := hi.1; omega)
                  have hrow5 : Row tWrO W5 (fun i => (w.heap.size + 3 ≤ i ∧ (Value.slice A1 E.length c1).ownBlock ≠ some i) ∧ (Value.slice Av U.length cv).ownBlock ≠ some i) [⟨ykey, yrow, ygone⟩] [.string ykey, .slice D yrow.length cr, .bool ygone] := by
                    have hs1 := HS.out.2.2.2.2.1
                    refine Row.single (tWrO_mk ((hrow.fr hf35 (fun i hi e => by have := hi.1; omega)).mono fun i hi hl => ⟨⟨by have := hi.1; omega, fun e => by have h1 := HS.out.2.2.2.2.2.1 i e; have h2 := hi.1; omega⟩, fun e => by have h1 := hJo i e; have h2 := hi.1; have h3 := hi.2; omega⟩))
                  obtain ⟨A6, c6, W6, hrun, hO6, hg6, hat6⟩ := run_ow_append (P := Tryz.prog) (ty := 67) (ty' := 67) tWrO hOv (.agg #[.string ⟨#[]⟩, .slice none 0 0, .bool false]) 48 Tryz.underlying67 info_wrv rfl (by decide) (by decide) 1 (ys := [⟨ykey, yrow, ygone⟩]) hrow5 hA5 (by simp only [List.length_singleton]; omega)
                  simp only [List.length_singleton] at hrun hO6 hat6
                  have hUl : U.length + 1 = (U ++ [(⟨ykey, yrow, ygone⟩ : Wr)]).length := by rw [List.length_append]; rfl
                  rw [hUl] at hO6 hat6
                  have hadd := hJ.addW hf3 hm4' hf4 hf5 hO6 hg6
                  have hg6f : Fr (fun i => (Value.slice Av U.length cv).ownBlock = some i) W5 W6 := (Fr.refl _ _).grown hg6 fun k hk => .inl hk
                  have hownU : ∀ i, (Value.slice Av U.length cv).ownBlock = some i → w.heap.size + 3 ≤ i := fun i hi => (hJ.ws.own hi).1.1
                  have hb6 := hg6f.blk (hf5.blk (hf4.blk (hf3.blk hJ.blk (fun f => f)) (fun e => by omega)) (fun f => f)) (fun e => by have := hownU _ e; omega)
                  have k6 := blk_cell hb6 1
                  have z6 := blk_frozen hb6 1
                  simp at k6
                  rw [← hUl, hsucc] at hadd
                  have hfin : Fr (fun i => (i = w.heap.size + 1 + 1 ∨ (Value.slice Av U.length cv).ownBlock = some i) ∨ i = w.heap.size + 1) wr (W6.setCell ⟨w.heap.size + 1, 1, none⟩ (.slice A6 (U.length + 1) c6)) :=
                    (((hf35.mono fun _ _ e => .inl e).grown hg6 fun k hk => .inl (.inr hk)).mono fun _ _ e => .inl e).set _ (.inl (.inr rfl)) _
                  have hs1 := HS.out.2.2.2.2.1
                  have hJr' : Rd tWrO (W6.setCell ⟨w.heap.size + 1, 1, none⟩ (.slice A6 (U.length + 1) c6)) (fun i => w1.heap.size ≤ i ∧ i < w2.heap.size) (some ad) x.ws := hJr.fr hfin fun i hi e => by
                    have h2 := hi.1
                    have h3 := hi.2
                    rcases e with (e | e) | e
                    · omega
                    · have := hJo i e; omega
                    · omega
                  have hzz := hfin.size
                  have hzf := hf35.size
                  have hJo' : ∀ i, (Value.slice A6 (U.length + 1) c6).ownBlock = some i → i < w1.heap.size ∨ w2.heap.size ≤ i := fun i hi => by
                    rw [← hUl] at hat6
                    rcases hat6 with h | h
                    · rw [h] at hi; exact hJo i hi
                    · rw [h] at hi
                      have h3 : W5.heap.size = i := Option.some.inj hi
                      right; omega
                  have hUl2 : U.length + 1 = (V ++ x.ws.take (j + 1)).length := by rw [← hsucc]; exact hUl
                  rw [hUl2] at hadd hJo'
                  have HX := Lib.hid (And.intro hadd (And.intro hJr' (And.intro hJo' (Nat.le_trans hJz hzz))))
                  rw [hUl2] at hrun HX
                  obtain ⟨q, hq⟩ : ∃ q, (V ++ x.ws.take (j + 1)).length = q := ⟨_, rfl⟩
                  rw [hq] at hrun HX
                  have HQ := Lib.hid hq
                  rw [hW3] at hlay k0
                  clear hadd hJr' hJo' hfin hs1 hzz hzf hUl hUl2 hat6 hg6 hO6 hg6f hb6 hownU hrow5 hOv hf35 hA5 hf5 hb4 hsz hm4 hm4' hf4 hf3 hb3 hW3 hJ hJr hJo hJz hkey hsucc hVl hq hrow J
                  go_wp2_with (at_builtin; rw [← hW5]; refine wpList_plain rfl fun K hK => wp_append_run _ _ _ _ rfl rfl rfl hrun (hK _ _ ?_))
                  go_roundw
                  case rel => exact ⟨j + 1, by omega, by go_num, A6, c6, HX.out.1, HX.out.2.1, by have := HX.out.2.2.1; rw [← HQ.out] at this; exact this, HX.out.2.2.2⟩
                  case measure => simp [intOf]; omega
                · obtain rfl : j = x.ws.length := by omega
                  rw [List.take_length] at J
                  go_wp2_with fail
                  go_roundw
                  case rel =>
                    obtain ⟨Av, cv, hJ, -⟩ := J.out
                    exact ⟨k + 1, A1, c1, by omega, by go_num, rfl, Av, cv, by rw [HS.out.2.1]; exact hJ⟩
                  case measure => simp [intOf]; omega
    · obtain rfl : k = n := by omega
      obtain ⟨Aw, cw, hI⟩ := I.out
      have hlen := formN_len (L := L) (ids := ids) (k := k) (by have := H.out.2.2.1; omega)
      have hfew := formN_few (L := L) (ids := ids) (k := k) (m := 20) H.out.2.2.2.1 (by have := H.out.2.2.1; omega)
      have hnod := formN_nodup (L := L) (ids := ids) (k := k) (fun id x hx => by obtain ⟨xb, _, hT⟩ := H.out.1.txs.some_ id x hx; exact hT.rising) (by have := H.out.2.2.1; omega)
      have hk1000 := H.out.2.1.1
      have hkn := H.out.2.2.1
      have hsort := sort_writes (w := wr) hI.ws (by omega) hnod
      have k1 := blk_cell hI.blk 1
      simp at k1
      have HI := Lib.hid (And.intro hI (And.intro hsort hlen))
      obtain ⟨q, hq⟩ : ∃ q, (L.formN ids k).2.length = q := ⟨_, rfl⟩
      rw [hq] at k1
      have HQ := Lib.hid hq
      clear hI hsort hlen hfew hnod hk1000 hkn hq I
      go_wp2_with fail
      have hso := HI.out.2.1
      rw [HQ.out] at hso
      refine hso.mono ?_
      rintro e w3 ⟨rfl, ys, hperm, hrise, hO3, hf3⟩
      have hyl : ys.length = q := by rw [hperm.length_eq, HQ.out]
      have hownw : ∀ i, (Value.slice Aw q cw).ownBlock = some i → w.heap.size + 3 ≤ i ∧ (Value.slice Ao k co).ownBlock ≠ some i := fun i hi => by
        have h1 := HI.out.1.ws
        rw [HQ.out] at h1
        have h2 := (h1.own hi).1
        rw [HI.out.2.2] at h2
        exact h2
      have hbz := HI.out.1.siz
      have hb3 := hf3.blk HI.out.1.blk (fun e => by have := (hownw _ e).1; omega)
      rw [HQ.out] at hb3
      have hr3 := hf3.blk HI.out.1.res (fun e => by have := (hownw _ e).1; omega)
      have m0 := blk_cell hb3 0
      have m1 := blk_cell hb3 1
      have n0 := blk_cell hr3 0
      have n1 := blk_cell hr3 1
      have z0 := blk_frozen hr3 0
      have z1 := blk_frozen hr3 1
      simp at m0 m1 n0 n1
      obtain ⟨Wf, hWf⟩ : ∃ Wf, Wf = (w3.setCell ⟨w.heap.size, 0, none⟩ (.int .i64 (now + 1))).setCell ⟨w.heap.size, 1, none⟩ (.slice Aw q cw) := ⟨_, rfl⟩
      have hfW : Fr (fun i => i = w.heap.size) w3 Wf := by rw [hWf]; exact ((Fr.refl (fun i => i = w.heap.size) w3).set ⟨w.heap.size, 0, none⟩ (.inl rfl) _).set ⟨w.heap.size, 1, none⟩ (.inl rfl) _
      have hbW : Wf.heap[w.heap.size]? = some (.cells #[.int .i64 (now + 1), .slice Aw q cw] 69 (0, 0)) := by
        rw [hWf]
        have h1 := blk_set (blk_set hr3 0 (.int .i64 (now + 1))) 1 (.slice Aw q cw)
        simpa using h1
      have f0 := blk_cell hbW 0
      have f1 := blk_cell hbW 1
      simp at f0 f1
      have HE := Lib.hid (And.intro hperm (And.intro hrise (And.intro hO3 (And.intro hf3 (And.intro hyl (And.intro hfW hownw))))))
      clear hperm hrise hO3 hf3 hyl hownw hfW hbW hb3 hr3 hso
      go_wp2_with fail
      rw [← hWf]
      refine bodyPost_ret (v := .tuple #[.agg #[.int .i64 (now + 1), .slice Aw q cw], .slice Ao k co]) (by simp [results, Tryz.results30, go_sem, f0, f1]) rfl ?_
      obtain ⟨hperm, hrise, hO3, hf3, hyl, hfW, hownw⟩ := HE.out
      have hout := HI.out.1.out
      rw [HI.out.2.2] at hout
      have hbz := HI.out.1.siz
      refine ⟨Ao, co, Aw, cw, ys, by rw [hyl], hperm, hrise, ?_, ?_, (HI.out.1.fr.next hf3 (fun i hi e => by have := (hownw i e).1; omega)).next hfW (fun i hi e => by omega)⟩
      · rw [hyl]
        exact (hO3.fr hfW (fun i hi e => by have := hi.1; omega)).mono fun i hi _ => by have := hi.1; omega
      · obtain ⟨cs, q1, q2, q3⟩ := hout
        have q4 := fun i hi => (q3 i hi : w.heap.size + 3 ≤ i)
        have ht : Ow (Ty.int .i64) 24 wr (fun i => (Value.slice Ao k co).ownBlock = some i) (.slice Ao k co) (L.formN ids k).1 := ⟨cs, q1, q2.imp fun _ _ h => h, fun k hk => hk⟩
        exact ((ht.fr hf3 fun i hi e => (hownw i e).2 hi).fr hfW fun i hi e => by have := q4 i hi; omega).mono fun i hi _ => by have := q4 i hi; omega
end Go.Proofs.YtlmhphejgahfbaaGreatDoor
