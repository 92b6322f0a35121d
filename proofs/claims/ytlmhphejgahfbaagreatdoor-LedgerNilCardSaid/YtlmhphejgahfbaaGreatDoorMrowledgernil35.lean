/- Texts of this claim, one behind the other: Pub, Publish, Stts, Tail. -/
import Derived.Test.YtlmhphejgahfbaaGreatDoorMrowledgernil33
import Derived.Test.YtlmhphejgahfbaaGreatDoorMrowledgernil34
import Derived.Test.YtlmhphejgahfbaaGreatDoorMrowledgernil25
import Derived.Test.YtlmhphejgahfbaaGreatDoorMrowledgernil18
import Derived.Test.YtlmhphejgahfbaaGreatDoorMrowledgernil1
import Derived.Deep.RegionHeld3
import Derived.StillTail
/- Layer 15 (ledger): what Publish keeps: plain facts, and a ledger's parts behind a turn of one of them. -/
set_option linter.unusedVariables false
set_option linter.unusedSimpArgs false
namespace Go.Proofs.YtlmhphejgahfbaaGreatDoor
open Go.RowKit

theorem find_nodup {L : Led} (h : (L.txs.map LTx.id).Nodup) : ∀ x ∈ L.txs, L.find x.id = some x := by
  unfold Led.find
  revert h
  generalize L.txs = l
  intro h
  induction l with
  | nil => intro x hx; cases hx
  | cons y l ih =>
    intro x hx
    rw [List.map_cons, List.nodup_cons] at h
    rcases List.mem_cons.1 hx with rfl | hx
    · simp
    · have hne : ¬ y.id = x.id := fun e => h.1 (List.mem_map.2 ⟨x, hx, e.symm⟩)
      rw [List.find?_cons]
      simp only [hne, decide_false]
      exact ih h.2 x hx
theorem dropped_snoc (L : Led) (ids : List Int) (id : Int) : L.dropped (ids ++ [id]) = (L.dropped ids).without id := by unfold Led.dropped; rw [List.foldl_append]; rfl
theorem dropped_parts (L : Led) (ids : List Int) : (L.dropped ids).tabs = L.tabs ∧ (L.dropped ids).s = L.s ∧ (L.dropped ids).next = L.next ∧ (L.dropped ids).sts = L.sts ∧ (L.dropped ids).txs.Sublist L.txs := by
  unfold Led.dropped
  induction ids generalizing L with
  | nil => exact ⟨rfl, rfl, rfl, rfl, List.Sublist.refl _⟩
  | cons id ids ih =>
    obtain ⟨a, b, c, d, e⟩ := ih (L.without id)
    exact ⟨a, b, c, d, e.trans (List.filter_sublist)⟩
section
variable {w w' : World} {col : Nat → Nat} {lb : Nat} {L : Led} {A : Option Addr} {c sb mb : Nat} {vst : Value} {l : List (Int × Value)}
theorem LedP.without (h : LedP w col lb L A c sb mb vst l) (id : Int) (hm : MapII w' mb (wipeI id l)) (f : Fr (fun i => i = mb) w w') : LedP w' col lb (L.without id) A c sb mb vst (wipeI id l) := by
  have hc2 := h.c2
  have hne : ∀ i, col i ≠ 2 → ¬ i = mb := fun i hi e => hi (by rw [e]; exact hc2)
  refine ⟨f.blk h.blk (hne _ (by rw [h.c1]; decide)), h.c1, h.c2, h.cap, h.tabs.fr f fun i hi => hne _ (by rw [hi]; decide), h.sto.fr f fun i hi => hne _ (by rw [hi]; decide), hm, ⟨fun id' h' => ?_, fun id' y hy => ?_⟩, h.sts.fr f fun i hi => hne _ (by rcases hi with hi | hi <;> rw [hi] <;> decide), h.own, h.kat.fr f (hne _ (by rw [h.kc]; decide)), h.kc⟩
  · rw [find_without] at h'
    rw [look_wipeI h.map.nodup]
    split at h'
    · rename_i e; rw [if_pos e.symm]
    · rename_i e; rw [if_neg (fun q => e q.symm)]; exact h.txs.none_ _ h'
  · rw [find_without] at hy
    split at hy
    · cases hy
    · rename_i e
      obtain ⟨xb, h1, h2⟩ := h.txs.some_ _ y hy
      refine ⟨xb, ?_, h2.fr f fun i hi => hne _ (by have := txCol_ge id'; omega)⟩
      rw [look_wipeI h.map.nodup, if_neg (fun q => e q.symm)]; exact h1
theorem LedP.withSto {s' : Sto} (h : LedP w col lb L A c sb mb vst l) (hs : StoreAt w' (fun i => col i = 3 ∨ w.heap.size ≤ i) sb s') (f : Fr (fun i => col i = 3) w w') : LedP w' (ext col w.heap.size 3) lb { L with s := s' } A c sb mb vst l := by
  have hlt : ∀ i, i < w.heap.size → ext col w.heap.size 3 i = col i := fun i hi => ext_old col hi
  have hr := h.recol (col' := ext col w.heap.size 3) hlt
  have hne : ∀ i, i < w.heap.size → ext col w.heap.size 3 i ≠ 3 → ¬ col i = 3 := fun i hi h1 h2 => h1 (by rw [hlt i hi]; exact h2)
  refine ⟨f.blk hr.blk (hne _ (blk_lt h.blk) (by rw [hr.c1]; decide)), hr.c1, hr.c2, hr.cap, hr.tabs.stab fun i hi hl => f.block i hl (hne i hl (by rw [hi]; decide)), hs.mono fun i hi hl => ?_, h.map.stab (f.block _ h.map.lt (hne _ h.map.lt (by rw [hr.c2]; decide))), ⟨h.txs.none_, fun id x hx => ?_⟩, hr.sts.stab fun i hi hl => f.block i hl (hne i hl (by rcases hi with hi | hi <;> rw [hi] <;> decide)), hr.own, h.kat.fr f (hne _ (kat_lt h.kat) (by rw [hr.kc]; decide)), hr.kc⟩
  · show ext _ _ _ i = 3
    rcases Nat.lt_or_ge i w.heap.size with h1 | h1
    · rw [hlt i h1]; rcases hi with hi | hi; exact hi; omega
    · exact ext_new col h1
  · obtain ⟨xb, h1, h2⟩ := hr.txs.some_ id x hx
    exact ⟨xb, h1, h2.stab fun i hi hl => f.block i hl (hne i hl (by have := txCol_ge id; omega))⟩
end
end Go.Proofs.YtlmhphejgahfbaaGreatDoor
/- Layer 15 (ledger): Publish. -/
set_option linter.unusedVariables false
set_option linter.unusedSimpArgs false
namespace Go.Proofs.YtlmhphejgahfbaaGreatDoor
open Go.RowKit

set_option maxHeartbeats 2000000 in
set_option maxRecDepth 100000 in
theorem publish_none {w : World} {col : Nat → Nat} {lb : Nat} {L : Led} {A : Option Addr} {c sb mb : Nat} {vst : Value} {l : List (Int × Value)} {ids : List Int} {R : Nat → Prop} {Ai Aw : Option Addr} {ci cw n : Nat} {N : Int} (hP : LedP w col lb L A c sb mb vst l) (hids : IdsAt w R Ai ids) (hRi : ∀ i, R i → col i ≠ 2) (hn : n = ids.length) (hci : n ≤ ci) :
    Calls Tryz.prog 33 #[.pointer (some ⟨lb, 0, none⟩), .agg #[.int .i64 N, .slice Aw 0 cw], .slice Ai n ci] w fun e w' => e = .returned (.int .i64 0) ∧ (∃ l', LedP w' col lb (L.dropped ids) A c sb mb vst l') ∧ Fr (fun i => i = mb) w w' := by
  have hn1000 : (n : Int) ≤ 1000 := by have := hids.1; omega
  have hcin : (n : Int) ≤ (ci : Int) := by omega
  have hn0 : (0 : Int) ≤ (n : Int) := Int.natCast_nonneg _
  obtain ⟨W1, hW1⟩ : ∃ W1, W1 = w.alloc (.cells #[.int .i64 N, .slice Aw 0 cw] 69) := ⟨_, rfl⟩
  have hf1 : Fr No w W1 := by rw [hW1]; exact (Fr.refl No w).alloc _
  have hb1 : W1.heap[w.heap.size]? = some (.cells #[.int .i64 N, .slice Aw 0 cw] 69 (0, 0)) := by rw [hW1]; exact heap_alloc_new w _
  have H := Lib.hid (And.intro hP (And.intro hids (And.intro hRi (And.intro hn (And.intro hf1 hb1)))))
  have b1 := blk_cell hb1 1
  simp at b1
  have hmlt := hP.map.lt
  have HM := Lib.hid hmlt
  clear hP hids hRi hn hf1 hb1 hmlt
  go_enter Tryz.func33, Tryz.ntmps33
  go_wp2_with fail
  rw [← hW1]
  clear hW1
  go_wp2_with fail
  go_loopw [30] (fun iv wr => ∃ k : Nat, k ≤ n ∧ iv = .int .i64 (k : Int) ∧ Hid (∃ l', LedP wr col lb (L.dropped (ids.take k)) A c sb mb vst l' ∧ Fr (fun i => i = mb) W1 wr)) (fun iv _ => n - (intOf iv).toNat)
  case atStart => exact ⟨0, Nat.zero_le _, rfl, l, H.out.1.fr0 H.out.2.2.2.2.1, Fr.refl _ _⟩
  case round =>
    obtain ⟨k, hk, rfl, I⟩ := hrel
    have hk0 : (0 : Int) ≤ (k : Int) := Int.natCast_nonneg _
    obtain ⟨l', hI, hfI⟩ := I.out
    by_cases hlt : k < n
    · have hk1 : (k : Int) < (n : Int) := by omega
      have hlti : k < ids.length := by have := H.out.2.2.2.1; omega
      have hidw := (H.out.2.1.fr0 H.out.2.2.2.2.1).fr hfI (fun i hi e => H.out.2.2.1 i hi (by rw [show i = mb from e]; exact H.out.1.c2))
      obtain ⟨ib, io, rfl, hRb, hcell⟩ : ∃ b o, Ai = some ⟨b, o, none⟩ ∧ R b ∧ ∀ j, j < ids.length → wr.cell? ⟨b, o + j, none⟩ = some (.int .i64 (ids.getD j 0)) := by
        rcases hidw.2 with h | ⟨b, o, h1, h2, h3⟩
        · rw [h] at hlti; exact absurd hlti (Nat.not_lt_zero _)
        · exact ⟨b, o, h1, h2, h3⟩
      have x0 := hcell k hlti
      rw [getD_at hlti] at x0
      have c2 := blk_cell hI.blk 2
      simp at c2
      have hsn : (L.dropped (ids.take k)).without ids[k] = L.dropped (ids.take (k + 1)) := by rw [← dropped_snoc, List.take_succ_eq_append_getElem hlti]
      obtain ⟨id, hid⟩ : ∃ id, ids[k] = id := ⟨_, rfl⟩
      rw [hid] at x0 hsn
      obtain ⟨w5, hdel, hm5, hf5⟩ := run_map_wipeI (P := Tryz.prog) hI.map 84 3 102 0 Tryz.underlying84 Tryz.underlying3 id
      have hI5 := hI.without id hm5 hf5
      rw [hsn] at hI5
      have HX := Lib.hid (And.intro hI5 (hfI.next hf5 (fun i _ e => e)))
      clear hI5 hm5 hf5 hI hfI I hcell hidw hsn hid
      go_wp2_with fail
      go_roundw
      case rel => exact ⟨k + 1, by omega, by go_num, _, HX.out.1, HX.out.2⟩
      case measure => simp [intOf]; omega
    · obtain rfl : k = n := by omega
      have hb := hfI.blk H.out.2.2.2.2.2 (fun e => by have h1 := HM.out; rw [show w.heap.size = mb from e] at h1; omega)
      have d1 := blk_cell hb 1
      simp at d1
      have hall : ids.take k = ids := List.take_of_length_le (by have := H.out.2.2.2.1; omega)
      rw [hall] at hI
      have HX := Lib.hid (And.intro hI ((H.out.2.2.2.2.1.mono (G := fun i => i = mb) fun _ _ f => f.elim).trans (hfI.mono fun i _ e => .inl e)))
      clear hI hfI hb I hall
      go_wp2_with fail
      go_ret
      exact ⟨rfl, ⟨_, HX.out.1⟩, HX.out.2⟩
end Go.Proofs.YtlmhphejgahfbaaGreatDoor
/- Layer 15 (ledger): its states: a copy of them, and new ones in their place. -/
set_option linter.unusedVariables false
set_option linter.unusedSimpArgs false
namespace Go.Proofs.YtlmhphejgahfbaaGreatDoor
open Go.RowKit

theorem info_stt : (Tryz.prog.info? 81).map (fun i => (i.zero, i.size, i.bytes)) = some (some (.agg #[.string ⟨#[]⟩, .string ⟨#[]⟩, .string ⟨#[]⟩, .pointer none]), 4, 56) := by kernel_rfl
theorem LedP.withSts {w w' : World} {col : Nat → Nat} {lb : Nat} {L : Led} {A : Option Addr} {c sb mb : Nat} {vst vst' : Value} {l : List (Int × Value)} {sts' : List Stt} (h : LedP w col lb L A c sb mb vst l) (hb : LedB w' lb (.slice A L.tabs.length c) sb mb L.next vst')
    (hO : Ow (tStt col) 81 w' (fun i => col i = 4 ∨ col i = 5) vst' sts') (ho : ∀ k, vst'.ownBlock = some k → col k = 4) (f : Fr (fun i => col i = 1 ∨ col i = 4) w w') : LedP w' col lb { L with sts := sts' } A c sb mb vst' l where
  blk := hb
  c1 := h.c1
  c2 := h.c2
  cap := h.cap
  tabs := h.tabs.fr f fun i hi => by rintro (e | e) <;> omega
  sto := h.sto.fr f fun i hi => by rintro (e | e) <;> omega
  map := h.map.stab (f.block _ h.map.lt (by have := h.c2; rintro (e | e) <;> omega))
  txs := ⟨h.txs.none_, (h.txs.fr f fun i hi => by rintro (e | e) <;> omega).some_⟩
  sts := hO
  own := ho
  kat := h.kat.fr f (by have := h.kc; rintro (e | e) <;> omega)
  kc := h.kc

set_option maxHeartbeats 1000000 in
set_option maxRecDepth 100000 in
theorem clone_stt {w : World} {col : Nat → Nat} {F : Nat → Prop} {A : Option Addr} {n c : Nat} {xs : List Stt} (h : Rd (tStt col) w F A xs) (hx : xs ≠ []) (hn : n = xs.length) (hl : xs.length ≤ 100) :
    Calls Tryz.prog 149 #[.slice A n c] w fun e w' => ∃ A1 c1, e = .returned (.slice A1 n c1) ∧ Ow (tStt col) 81 w' (fun i => (col i = 5 ∧ i < w.heap.size) ∨ w.heap.size ≤ i) (.slice A1 n c1) xs ∧ Fr No w w' ∧ ∀ k, (Value.slice A1 n c1).ownBlock = some k → w.heap.size ≤ k := by
  subst hn
  have q22 : ∀ (w : World) (a : Option Addr) (n c n' c' : Nat), (binOp .eql 85 (.slice a n c) (.slice none n' c')).run Tryz.prog w = .ok (.bool a.isNone) w := fun w a n c n' c' => Lib.run_eql_slice_nil w _ _ a n c n' c' Tryz.underlying85
  have hpos : 0 < xs.length := List.length_pos_iff.2 hx
  obtain ⟨ad, v, rfl, _⟩ := stt_at h hpos
  have hfa : Fr No w (w.alloc (.cells #[] 81)) := (Fr.refl No w).alloc _
  obtain ⟨cs, hR, hA⟩ := (h.fr0 hfa).at
  have hown : Ow (tStt col) 81 (w.alloc (.cells #[] 81)) (fun i => (col i = 5 ∧ i < w.heap.size) ∨ w.heap.size ≤ i) (.slice (some ⟨w.heap.size, 0, none⟩) 0 0) ([] : List Stt) :=
    ⟨[], World.ownsRow_made w #[] 0 (Nat.zero_le _) (Nat.zero_le _) rfl, rfl, fun k hk => by simp [Value.ownBlock] at hk; omega⟩
  have hR' : Row (tStt col) (w.alloc (.cells #[] 81)) (fun i => ((col i = 5 ∧ i < w.heap.size) ∨ w.heap.size ≤ i) ∧ (Value.slice (some ⟨w.heap.size, 0, none⟩) 0 0).ownBlock ≠ some i) xs cs := by
    obtain ⟨_, cs2, g1, g2⟩ := h
    have h1 : Row (tStt col) w (fun i => ((col i = 5 ∧ i < w.heap.size) ∨ w.heap.size ≤ i) ∧ (Value.slice (some ⟨w.heap.size, 0, none⟩) 0 0).ownBlock ≠ some i) xs cs := by
      have hR0 : Row (tStt col) w F xs cs := by
        have e : cs = cs2 := by
          have l1 := hR.len
          have l2 := g1.len
          apply List.ext_getElem?
          intro j
          by_cases hj : j < cs.length
          · obtain ⟨ad1, e1, c1⟩ := hA j cs[j] (List.getElem?_eq_getElem hj)
            have hj2 : j < cs2.length := by omega
            obtain ⟨ad2, e2, _, c2⟩ := g2 j cs2[j] (List.getElem?_eq_getElem hj2)
            obtain rfl : ad1 = ad2 := by rw [e1] at e2; exact Option.some.inj e2
            have c3 := hfa.cell c2 (fun f => f)
            rw [c1] at c3
            rw [List.getElem?_eq_getElem hj, List.getElem?_eq_getElem hj2, Option.some.inj c3]
          · rw [List.getElem?_eq_none (by omega), List.getElem?_eq_none (by omega)]
        rw [e]; exact g1
      refine row_turn hR0 fun x cc hx => ?_
      obtain ⟨v, e, hn⟩ := hx
      exact ⟨v, e, hn.mono fun i hi hl => ⟨hi.1, .inl ⟨hi.1, hl⟩, fun e => by simp [Value.ownBlock] at e; omega⟩⟩
    exact h1.stab fun i hi hl => hfa.block i hl (fun f => f)
  have H := Lib.hid (And.intro hown (And.intro hR' (And.intro hA hfa)))
  clear hown hR' hA hR h hfa
  go_enter Tryz.func149, Tryz.ntmps149
  go_wp2_with (at_builtin; refine ow_append (tStt col) H.out.1 _ _ (.agg #[.string ⟨#[]⟩, .string ⟨#[]⟩, .string ⟨#[]⟩, .pointer none]) 56 rfl rfl Tryz.underlying85 info_stt rfl (by decide) (show 0 < 4 by decide) rfl rfl rfl H.out.2.1 H.out.2.2.1 (by simp; omega) ?_; intro A1 c1 w1 hown1 hg hat)
  go_ret
  simp only [List.length_nil, Nat.zero_add, List.nil_append] at hown1 hat ⊢
  refine ⟨A1, c1, rfl, hown1.mono fun k hk _ => by (rcases hk with hk | hk; exact hk; right; simp at hk; omega), (H.out.2.2.2.grown hg fun k hk => .inr (by simp [Value.ownBlock] at hk; omega)), fun k hk => ?_⟩
  rcases hat with h | h
  · rw [h] at hk; simp [Value.ownBlock] at hk; omega
  · rw [h] at hk
    have := Option.some.inj hk
    simp at this; omega
end Go.Proofs.YtlmhphejgahfbaaGreatDoor
/- A region that draws its order, whose LAST operation (all others are ahead of it) may write what its loads read: the condition on the world is shown behind every other operation, not behind that one. -/
set_option linter.unusedVariables false
namespace Go.Proofs.YtlmhphejgahfbaaGreatDoor
open Go.RowKit

section
variable {P : Program} {ops : Array Oper} {Q : Exit → Act → World → Prop} {md : Region.Mode} {S : World → Prop} {n : Nat}

def wpTail (P : Program) (md : Region.Mode) (ops : Array Oper) (Q : Exit → Act → World → Prop) (S : World → Prop) (n : Nat) : Nat → Array Bool → Act → World → Prop
  | 0, listed, a, w => Region.ready md ops listed = [] ∧ Q .normal a w
  | fuel + 1, listed, a, w =>
    (Region.ready md ops listed = [] → Q .normal a w) ∧
    ∀ i ∈ Region.ready md ops listed, wpOp P ops Q i (fun a' w' => (i < n → S w') ∧ wpTail P md ops Q S n fuel (listed.setIfInBounds i true) a' w') a w

theorem wpTail.any : ∀ (fuel : Nat) (listed : Array Bool) (a : Act) (w : World), wpTail P md ops Q S n fuel listed a w → wpAny P md ops Q fuel listed a w
  | 0, _, _, _, h => h
  | fuel + 1, _, _, _, h => ⟨h.1, fun i hi => wpOp_mono (fun a' w' h' => wpTail.any fuel _ a' w' h'.2) (h.2 i hi)⟩

theorem wpTail_first {i : Nat} {oi : Oper} {v : Value} (hi : ops[i]? = some oi) (hsel : ∀ (j : Nat) (o : Oper) cs b, ops[j]? = some o → o.op ≠ .select cs b)
    (hs : Region.sinkB md ops n = true) (hc : Region.chainB md ops n = true) (hn : n < ops.size) (hin : i < n)
    (hQ : ∀ c a w, Q (.panic c) (a.put oi.dst v) w → Q (.panic c) a w) :
    ∀ (fuel : Nat) (listed : Array Bool) (a : Act) (w : World), HeadInv md ops n listed →
      (∀ j oj, ops[j]? = some oj → j ≠ i → listed.getD j true = false → (∀ e ∈ oj.after, Region.binds md e = true → e.on ≠ i) → oi.apart ops oj = true) →
      i ∈ Region.ready md ops listed → YieldsIf P ops S oi v a → S w →
      wpTail P md ops Q S n fuel (listed.setIfInBounds i true) (a.put oi.dst v) w → wpTail P md ops Q S n (fuel + 1) listed a w := by
  intro fuel
  induction fuel with
  | zero =>
    intro listed a w inv _ hr hy hS H
    refine ⟨fun h => (by rw [h] at hr; cases hr), fun j hj => ?_⟩
    by_cases hji : j = i
    · subst hji; exact hy.wpOp hi hS ⟨fun _ => hS, H⟩
    · have := ready_mono hj hji
      rw [H.1] at this
      cases this
  | succ fuel ih =>
    intro listed a w inv hfree hr hy hS H
    have hun := (mem_ready.1 hr).1
    refine ⟨fun h => (by rw [h] at hr; cases hr), fun j hj => ?_⟩
    have hjn : j < n := by
      rcases Nat.lt_or_ge j n with h | h
      · exact h
      · exact absurd hj (tail_waits hs hc hn inv _ i rfl hin hun j h)
    by_cases hji : j = i
    · subst hji; exact hy.wpOp hi hS ⟨fun _ => hS, H⟩
    · have h1 := H.2 j (ready_mono hj hji)
      obtain ⟨hjun, oj, hoj, hall⟩ := mem_ready.1 hj
      have hnot : ∀ e ∈ oj.after, Region.binds md e = true → e.on ≠ i := fun e he hb heq => by
        have h1 := hall e he hb
        rw [heq, getD_both hun] at h1
        cases h1
      have h2 := wpOp_putIf hoj (hfree j oj hoj hji hjun hnot) (fun cs b => hsel i oi cs b hi) (fun cs b => hsel j oj cs b hoj) hQ hy h1
      have hfree' : ∀ k ok, ops[k]? = some ok → k ≠ i → (listed.setIfInBounds j true).getD k true = false →
          (∀ e ∈ ok.after, Region.binds md e = true → e.on ≠ i) → oi.apart ops ok = true := fun k ok hk hki hun hno => by
        refine hfree k ok hk hki ?_ hno
        by_cases hjk : j = k
        · subst hjk; exact hjun
        · rw [getD_set_ne true hjk] at hun; exact hun
      refine wpOp_mono (fun a' w' h3 => ⟨fun _ => h3.2.1 hjn, ih (listed.setIfInBounds j true) a' w' (inv.set hj hjn) hfree' (ready_mono hr (Ne.symm hji)) h3.1 (h3.2.1 hjn) ?_⟩) h2
      rw [Array.setIfInBounds_comm _ _ hji]
      exact h3.2.2

/-- What the walk goes through. -/
def WalkTail (P : Program) (md : Region.Mode) (ops : Array Oper) (Q : Exit → Act → World → Prop) (S : World → Prop) (n : Nat) (fuel : Nat) (listed : Array Bool) (a : Act) (w : World) : Prop :=
  HeadInv md ops n listed → wpTail P md ops Q S n fuel listed a w

/-- The beginning: n the last operation's number. -/
theorem wp_region_tail {id : Nat} {l : List Oper} {a : Act} {w : World} (n : Nat) (S : World → Prop) (hm : P.follows .mixedOrders = true) (hS : S w.drew)
    (h : S w.drew → WalkTail P .any l.toArray Q S n l.length (Array.replicate l.length false) a w.drew) : (Code.region id l.toArray true).wp P Q a w := by
  refine wp_region_any hm ?_
  refine wpTail.any (S := S) (n := n) _ _ _ _ ?_
  refine h hS ⟨by simp, fun j oj _ hl => (by rw [getD_replicate_false] at hl; cases hl), fun t _ ht => getD_in (by simpa using ht) (getD_replicate_false _ _)⟩

/-- Take number i first. -/
theorem WalkTail.take {l : List Oper} {i : Nat} {oi : Oper} {v : Value} {fuel : Nat} {listed : Array Bool} {a : Act} {w : World} (hi : l[i]? = some oi)
    (hb : (Region.noSelect l.toArray && Region.sinkB md l.toArray n && Region.chainB md l.toArray n && decide (n < l.toArray.size) && decide (i < n) && Region.free md l.toArray listed i && (Region.ready md l.toArray listed).contains i) = true)
    (hQ : ∀ c a w, Q (.panic c) (a.put oi.dst v) w → Q (.panic c) a w) (hy : YieldsIf P l.toArray S oi v a) (hS : S w)
    (h : WalkTail P md l.toArray Q S n fuel (listed.setIfInBounds i true) (a.put oi.dst v) w) : WalkTail P md l.toArray Q S n (fuel + 1) listed a w := fun inv => by
  simp only [Bool.and_eq_true, decide_eq_true_eq] at hb
  obtain ⟨⟨⟨⟨⟨⟨h1, h2⟩, h3⟩, h4⟩, h5⟩, h6⟩, h7⟩ := hb
  have hr : i ∈ Region.ready md l.toArray listed := by simpa using h7
  exact wpTail_first (by simpa using hi) (Region.noSelect_spec h1) h2 h3 h4 h5 hQ fuel listed a w inv (Region.free_spec (by simpa using hi) h6) hr hy hS (h (inv.set hr h5))

theorem wpTail.turn {S' : World → Prop} (h : ∀ w, S' w → S w) : ∀ (fuel : Nat) (listed : Array Bool) (a : Act) (w : World), wpTail P md ops Q S' n fuel listed a w → wpTail P md ops Q S n fuel listed a w
  | 0, _, _, _, hw => hw
  | fuel + 1, _, _, _, hw => ⟨hw.1, fun i hi => wpOp_mono (fun a' w' h' => ⟨fun hin => h _ (h'.1 hin), wpTail.turn h fuel _ a' w' h'.2⟩) (hw.2 i hi)⟩

/-- From here on more is known of the world. -/
theorem WalkTail.turn {l : List Oper} (S' : World → Prop) {fuel : Nat} {listed : Array Bool} {a : Act} {w : World} (h : ∀ w, S' w → S w) (hS : S' w) (hw : S' w → WalkTail P md l.toArray Q S' n fuel listed a w) : WalkTail P md l.toArray Q S n fuel listed a w :=
  fun inv => wpTail.turn h _ _ _ _ (hw hS inv)

/-- Number i alone may come up: S is shown anew behind it. -/
theorem WalkTail.one {l : List Oper} {i : Nat} {oi : Oper} {fuel : Nat} {listed : Array Bool} {a : Act} {w : World} (hi : l[i]? = some oi) (hr : Region.ready md l.toArray listed = [i]) (hin : i < n)
    (h : ∀ K' : Act → World → Prop, Shut (∀ a w, S w → (S w → WalkTail P md l.toArray Q S n fuel (listed.setIfInBounds i true) a w) → K' a w) → if Region.wanted oi (yielded l.toArray a.tmps) = true then Oper.wp P oi a w K' Q else K' (a.put oi.dst undef) w) :
    WalkTail P md l.toArray Q S n (fuel + 1) listed a w := fun inv =>
  ⟨fun h0 => (by rw [hr] at h0; cases h0), fun j hj => by
    rw [hr] at hj
    obtain rfl : j = i := by simpa using hj
    have inv' := inv.set (i := j) (by rw [hr]; simp) hin
    exact wpOp_step (by simpa using hi) (fun K' hK => h K' (fun a w hS hW => hK a w ⟨fun _ => hS, hW hS inv'⟩))⟩

/-- The last operation. -/
theorem WalkTail.last {l : List Oper} {oi : Oper} {fuel : Nat} {listed : Array Bool} {a : Act} {w : World} (hi : l[n]? = some oi) (hr : Region.ready md l.toArray listed = [n]) (hd : Region.ready md l.toArray (listed.setIfInBounds n true) = [])
    (h : ∀ K' : Act → World → Prop, Shut (∀ a w, Q .normal a w → K' a w) → if Region.wanted oi (yielded l.toArray a.tmps) = true then Oper.wp P oi a w K' Q else K' (a.put oi.dst undef) w) :
    WalkTail P md l.toArray Q S n (fuel + 1) listed a w := fun inv =>
  ⟨fun h0 => (by rw [hr] at h0; cases h0), fun j hj => by
    rw [hr] at hj
    obtain rfl : j = n := by simpa using hj
    refine wpOp_step (by simpa using hi) (fun K' hK => h K' (fun a w hQ => hK a w ⟨fun h => absurd h (Nat.lt_irrefl _), ?_⟩))
    cases fuel with
    | zero => exact ⟨hd, hQ⟩
    | succ f => exact ⟨fun _ => hQ, by rw [hd]; simp⟩⟩

end
end Go.Proofs.YtlmhphejgahfbaaGreatDoor
