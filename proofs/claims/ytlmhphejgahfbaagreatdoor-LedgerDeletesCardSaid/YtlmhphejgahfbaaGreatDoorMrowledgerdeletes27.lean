/- Texts of this claim, one behind the other: Publish, Stts. -/
import Derived.Test.YtlmhphejgahfbaaGreatDoorMrowledgerdeletes26
import Derived.Test.YtlmhphejgahfbaaGreatDoorMrowledgerdeletes19
import Derived.Test.YtlmhphejgahfbaaGreatDoorMrowledgerdeletes20
/- Layer 15 (ledger): Publish. -/
set_option linter.unusedVariables false
set_option linter.unusedSimpArgs false
namespace Go.Proofs.YtlmhphejgahfbaaGreatDoor
open Go.RowKit

set_option maxHeartbeats 2000000 in
set_option maxRecDepth 100000 in
theorem publish_none {w : World} {col : Nat → Nat} {lb : Nat} {L : Led} {A : Option Addr} {c sb mb : Nat} {vst : Value} {l : List (Int × Value)} {ids : List Int} {R : Nat → Prop} {Ai Aw : Option Addr} {ci cw n : Nat} {N : Int} (hP : LedP w col lb L A c sb mb vst l) (hids : IdsAt w R Ai ids) (hRi : ∀ i, R i → col i ≠ 2) (hn : n = ids.length) (hci : n ≤ ci) :
    Calls Tryz.prog 33 #[.pointer (some ⟨lb, 0, none⟩), .agg #[.int .i64 N, .slice Aw 0 cw], .slice Ai n ci] w fun e w' => e = .returned (.int .i64 0) ∧ (∃ l', LedP w' col lb (L.dropped ids) A c sb mb vst l') ∧ Fr (fun i => i = mb) w w' := by
  have hn1000 : (n : Int) ≤ 1000 := by have := hids.1; omega
  have hcin : (n : Int) ≤ (ci : Int) := by omega
  have hn0 : (0 : Int) ≤ (n : Int) := Int.natCast_nonneg _
  obtain ⟨W1, hW1⟩ : ∃ W1, W1 = w.alloc (.cells #[.int .i64 N, .slice Aw 0 cw] 69) := ⟨_, rfl⟩
  have hf1 : Fr No w W1 := by rw [hW1]; exact (Fr.refl No w).alloc _
  have hb1 : W1.heap[w.heap.size]? = some (.cells #[.int .i64 N, .slice Aw 0 cw] 69 (0, 0)) := by rw [hW1]; exact heap_alloc_new w _
  have H := Lib.hid (And.intro hP (And.intro hids (And.intro hRi (And.intro hn (And.intro hf1 hb1)))))
  have b1 := blk_cell hb1 1
  simp at b1
  have hmlt := hP.map.lt
  have HM := Lib.hid hmlt
  clear hP hids hRi hn hf1 hb1 hmlt
  go_enter Tryz.func33, Tryz.ntmps33
  go_wp2_with fail
  rw [← hW1]
  clear hW1
  go_wp2_with fail
  go_loopw [30] (fun iv wr => ∃ k : Nat, k ≤ n ∧ iv = .int .i64 (k : Int) ∧ Hid (∃ l', LedP wr col lb (L.dropped (ids.take k)) A c sb mb vst l' ∧ Fr (fun i => i = mb) W1 wr)) (fun iv _ => n - (intOf iv).toNat)
  case atStart => exact ⟨0, Nat.zero_le _, rfl, l, H.out.1.fr0 H.out.2.2.2.2.1, Fr.refl _ _⟩
  case round =>
    obtain ⟨k, hk, rfl, I⟩ := hrel
    have hk0 : (0 : Int) ≤ (k : Int) := Int.natCast_nonneg _
    obtain ⟨l', hI, hfI⟩ := I.out
    by_cases hlt : k < n
    · have hk1 : (k : Int) < (n : Int) := by omega
      have hlti : k < ids.length := by have := H.out.2.2.2.1; omega
      have hidw := (H.out.2.1.fr0 H.out.2.2.2.2.1).fr hfI (fun i hi e => H.out.2.2.1 i hi (by rw [show i = mb from e]; exact H.out.1.c2))
      obtain ⟨ib, io, rfl, hRb, hcell⟩ : ∃ b o, Ai = some ⟨b, o, none⟩ ∧ R b ∧ ∀ j, j < ids.length → wr.cell? ⟨b, o + j, none⟩ = some (.int .i64 (ids.getD j 0)) := by
        rcases hidw.2 with h | ⟨b, o, h1, h2, h3⟩
        · rw [h] at hlti; exact absurd hlti (Nat.not_lt_zero _)
        · exact ⟨b, o, h1, h2, h3⟩
      have x0 := hcell k hlti
      rw [getD_at hlti] at x0
      have c2 := blk_cell hI.blk 2
      simp at c2
      have hsn : (L.dropped (ids.take k)).without ids[k] = L.dropped (ids.take (k + 1)) := by rw [← dropped_snoc, List.take_succ_eq_append_getElem hlti]
      obtain ⟨id, hid⟩ : ∃ id, ids[k] = id := ⟨_, rfl⟩
      rw [hid] at x0 hsn
      obtain ⟨w5, hdel, hm5, hf5⟩ := run_map_wipeI (P := Tryz.prog) hI.map 84 3 102 0 Tryz.underlying84 Tryz.underlying3 id
      have hI5 := hI.without id hm5 hf5
      rw [hsn] at hI5
      have HX := Lib.hid (And.intro hI5 (hfI.next hf5 (fun i _ e => e)))
      clear hI5 hm5 hf5 hI hfI I hcell hidw hsn hid
      go_wp2_with fail
      go_roundw
      case rel => exact ⟨k + 1, by omega, by go_num, _, HX.out.1, HX.out.2⟩
      case measure => simp [intOf]; omega
    · obtain rfl : k = n := by omega
      have hb := hfI.blk H.out.2.2.2.2.2 (fun e => by have h1 := HM.out; rw [show w.heap.size = mb from e] at h1; omega)
      have d1 := blk_cell hb 1
      simp at d1
      have hall : ids.take k = ids := List.take_of_length_le (by have := H.out.2.2.2.1; omega)
      rw [hall] at hI
      have HX := Lib.hid (And.intro hI ((H.out.2.2.2.2.1.mono (G := fun i => i = mb) fun _ _ f => f.elim).trans (hfI.mono fun i _ e => .inl e)))
      clear hI hfI hb I hall
      go_wp2_with fail
      go_ret
      exact ⟨rfl, ⟨_, HX.out.1⟩, HX.out.2⟩
end Go.Proofs.YtlmhphejgahfbaaGreatDoor
/- Layer 15 (ledger): its states: a copy of them, and new ones in their place. -/
set_option linter.unusedVariables false
set_option linter.unusedSimpArgs false
namespace Go.Proofs.YtlmhphejgahfbaaGreatDoor
open Go.RowKit

theorem info_stt : (Tryz.prog.info? 81).map (fun i => (i.zero, i.size, i.bytes)) = some (some (.agg #[.string ⟨#[]⟩, .string ⟨#[]⟩, .string ⟨#[]⟩, .pointer none]), 4, 56) := by kernel_rfl
theorem LedP.withSts {w w' : World} {col : Nat → Nat} {lb : Nat} {L : Led} {A : Option Addr} {c sb mb : Nat} {vst vst' : Value} {l : List (Int × Value)} {sts' : List Stt} (h : LedP w col lb L A c sb mb vst l) (hb : LedB w' lb (.slice A L.tabs.length c) sb mb L.next vst')
    (hO : Ow (tStt col) 81 w' (fun i => col i = 4 ∨ col i = 5) vst' sts') (ho : ∀ k, vst'.ownBlock = some k → col k = 4) (f : Fr (fun i => col i = 1 ∨ col i = 4) w w') : LedP w' col lb { L with sts := sts' } A c sb mb vst' l where
  blk := hb
  c1 := h.c1
  c2 := h.c2
  cap := h.cap
  tabs := h.tabs.fr f fun i hi => by rintro (e | e) <;> omega
  sto := h.sto.fr f fun i hi => by rintro (e | e) <;> omega
  map := h.map.stab (f.block _ h.map.lt (by have := h.c2; rintro (e | e) <;> omega))
  txs := ⟨h.txs.none_, (h.txs.fr f fun i hi => by rintro (e | e) <;> omega).some_⟩
  sts := hO
  own := ho
  kat := h.kat.fr f (by have := h.kc; rintro (e | e) <;> omega)
  kc := h.kc

set_option maxHeartbeats 1000000 in
set_option maxRecDepth 100000 in
theorem clone_stt {w : World} {col : Nat → Nat} {F : Nat → Prop} {A : Option Addr} {n c : Nat} {xs : List Stt} (h : Rd (tStt col) w F A xs) (hx : xs ≠ []) (hn : n = xs.length) (hl : xs.length ≤ 100) :
    Calls Tryz.prog 149 #[.slice A n c] w fun e w' => ∃ A1 c1, e = .returned (.slice A1 n c1) ∧ Ow (tStt col) 81 w' (fun i => (col i = 5 ∧ i < w.heap.size) ∨ w.heap.size ≤ i) (.slice A1 n c1) xs ∧ Fr No w w' ∧ ∀ k, (Value.slice A1 n c1).ownBlock = some k → w.heap.size ≤ k := by
  subst hn
  have q22 : ∀ (w : World) (a : Option Addr) (n c n' c' : Nat), (binOp .eql 85 (.slice a n c) (.slice none n' c')).run Tryz.prog w = .ok (.bool a.isNone) w := fun w a n c n' c' => Lib.run_eql_slice_nil w _ _ a n c n' c' Tryz.underlying85
  have hpos : 0 < xs.length := List.length_pos_iff.2 hx
  obtain ⟨ad, v, rfl, _⟩ := stt_at h hpos
  have hfa : Fr No w (w.alloc (.cells #[] 81)) := (Fr.refl No w).alloc _
  obtain ⟨cs, hR, hA⟩ := (h.fr0 hfa).at
  have hown : Ow (tStt col) 81 (w.alloc (.cells #[] 81)) (fun i => (col i = 5 ∧ i < w.heap.size) ∨ w.heap.size ≤ i) (.slice (some ⟨w.heap.size, 0, none⟩) 0 0) ([] : List Stt) :=
    ⟨[], World.ownsRow_made w #[] 0 (Nat.zero_le _) (Nat.zero_le _) rfl, rfl, fun k hk => by simp [Value.ownBlock] at hk; omega⟩
  have hR' : Row (tStt col) (w.alloc (.cells #[] 81)) (fun i => ((col i = 5 ∧ i < w.heap.size) ∨ w.heap.size ≤ i) ∧ (Value.slice (some ⟨w.heap.size, 0, none⟩) 0 0).ownBlock ≠ some i) xs cs := by
    obtain ⟨_, cs2, g1, g2⟩ := h
    have h1 : Row (tStt col) w (fun i => ((col i = 5 ∧ i < w.heap.size) ∨ w.heap.size ≤ i) ∧ (Value.slice (some ⟨w.heap.size, 0, none⟩) 0 0).ownBlock ≠ some i) xs cs := by
      have hR0 : Row (tStt col) w F xs cs := by
        have e : cs = cs2 := by
          have l1 := hR.len
          have l2 := g1.len
          apply List.ext_getElem?
          intro j
          by_cases hj : j < cs.length
          · obtain ⟨ad1, e1, c1⟩ := hA j cs[j] (List.getElem?_eq_getElem hj)
            have hj2 : j < cs2.length := by omega
            obtain ⟨ad2, e2, _, c2⟩ := g2 j cs2[j] (List.getElem?_eq_getElem hj2)
            obtain rfl : ad1 = ad2 := by rw [e1] at e2; exact Option.some.inj e2
            have c3 := hfa.cell c2 (fun f => f)
            rw [c1] at c3
            rw [List.getElem?_eq_getElem hj, List.getElem?_eq_getElem hj2, Option.some.inj c3]
          · rw [List.getElem?_eq_none (by omega), List.getElem?_eq_none (by omega)]
        rw [e]; exact g1
      refine row_turn hR0 fun x cc hx => ?_
      obtain ⟨v, e, hn⟩ := hx
      exact ⟨v, e, hn.mono fun i hi hl => ⟨hi.1, .inl ⟨hi.1, hl⟩, fun e => by simp [Value.ownBlock] at e; omega⟩⟩
    exact h1.stab fun i hi hl => hfa.block i hl (fun f => f)
  have H := Lib.hid (And.intro hown (And.intro hR' (And.intro hA hfa)))
  clear hown hR' hA hR h hfa
  go_enter Tryz.func149, Tryz.ntmps149
  go_wp2_with (at_builtin; refine ow_append (tStt col) H.out.1 _ _ (.agg #[.string ⟨#[]⟩, .string ⟨#[]⟩, .string ⟨#[]⟩, .pointer none]) 56 rfl rfl Tryz.underlying85 info_stt rfl (by decide) (show 0 < 4 by decide) rfl rfl rfl H.out.2.1 H.out.2.2.1 (by simp; omega) ?_; intro A1 c1 w1 hown1 hg hat)
  go_ret
  simp only [List.length_nil, Nat.zero_add, List.nil_append] at hown1 hat ⊢
  refine ⟨A1, c1, rfl, hown1.mono fun k hk _ => by (rcases hk with hk | hk; exact hk; right; simp at hk; omega), (H.out.2.2.2.grown hg fun k hk => .inr (by simp [Value.ownBlock] at hk; omega)), fun k hk => ?_⟩
  rcases hat with h | h
  · rw [h] at hk; simp [Value.ownBlock] at hk; omega
  · rw [h] at hk
    have := Option.some.inj hk
    simp at this; omega
end Go.Proofs.YtlmhphejgahfbaaGreatDoor
