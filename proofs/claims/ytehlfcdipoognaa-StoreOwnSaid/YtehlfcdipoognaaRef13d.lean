/- Reference 13 (store): Trim. -/
import Derived.Test.YtehlfcdipoognaaRef13b
set_option linter.unusedVariables false
set_option linter.unusedSimpArgs false
namespace Go.Proofs.Ytehlfcdipoognaa
open Go.RowKit

theorem info_rchn : (Try.prog.info? 85).map (fun i => (i.zero, i.size, i.bytes)) = some (some (.agg #[.slice none 0 0, .int .i64 0]), 2, 32) := by kernel_rfl
theorem blk_three1 (w : World) (o o' o'' : Obj) : (((w.alloc o).alloc o').alloc o'').heap[w.heap.size]? = some o := by
  rw [Below.heap_alloc _ _ _ (by simp; omega)]; exact blk_two1 w o o'
theorem blk_three2 (w : World) (o o' o'' : Obj) : (((w.alloc o).alloc o').alloc o'').heap[w.heap.size + 1]? = some o' := by
  rw [Below.heap_alloc _ _ _ (by simp)]; exact blk_two2 w o o'
theorem blk_three3 (w : World) (o o' o'' : Obj) : (((w.alloc o).alloc o').alloc o'').heap[w.heap.size + 2]? = some o'' := by
  have := heap_alloc_new ((w.alloc o).alloc o') o''; rwa [World.size_alloc, World.size_alloc] at this

theorem cut_le (c : Chn) (a : Int) : c.cut a ≤ c.l.length := by
  have := seen_le c a
  unfold Chn.cut
  split
  · split
    · omega
    · split <;> omega
  · omega

/-- What the document's loop holds at a round's head. -/
structure RTrimInv (w W wr : World) (F : Nat → Prop) (s : Sto) (a : Int) (A : Option Addr) (c k : Nat) (v : Value) (n : Nat) : Prop where
  le : k ≤ s.kc.length
  sum : n = ((s.kc.map fun p => p.2.cut a).take k).sum
  blk : wr.heap[w.heap.size + 2]? = some (.cells #[.slice A s.kc.length c, v, .int .i64 s.now] 29 (0, 0))
  own : Ow tChn 85 wr (fun i => (F i ∧ i < w.heap.size) ∨ w.heap.size + 2 < i) v ((s.kc.take k).map fun p => p.2.trim a)
  box : ∀ j, v.ownBlock = some j → w.heap.size + 2 < j
  fr : Fr (fun i => i = w.heap.size + 2) W wr

theorem rtrim_next {w W wr w1 w3 : World} {F : Nat → Prop} {s : Sto} {a : Int} {A A3 : Option Addr} {c c3 k n : Nat} {v : Value} {o1 o2 : Obj} {x : Chn} (hsW : W.heap.size = w.heap.size + 3) (hf1 : Fr No wr w1) (hb1 : w1.heap[w.heap.size + 2]? = some (.cells #[.slice A s.kc.length c, v, .int .i64 s.now] 29 (0, 0)))
    (I : RTrimInv w W wr F s a A c k v n) (ho : Ow tChn 85 w3 (fun i => ((F i ∧ i < w.heap.size) ∨ w.heap.size + 2 < i) ∨ ((w1.alloc o1).alloc o2).heap.size ≤ i) (.slice A3 (k + 1) c3) (((s.kc.take k).map fun p => p.2.trim a) ++ [x]))
    (hg : ((w1.alloc o1).alloc o2).grownBy w3 v.ownBlock) (hat : (Value.slice A3 (k + 1) c3).ownBlock = v.ownBlock ∨ (Value.slice A3 (k + 1) c3).ownBlock = some ((w1.alloc o1).alloc o2).heap.size) :
    w3.heap[w.heap.size + 2]? = some (.cells #[.slice A s.kc.length c, v, .int .i64 s.now] 29 (0, 0)) ∧
    (w3.setCell ⟨w.heap.size + 2, 1, none⟩ (.slice A3 (k + 1) c3)).heap[w.heap.size + 2]? = some (.cells #[.slice A s.kc.length c, .slice A3 (k + 1) c3, .int .i64 s.now] 29 (0, 0)) ∧
    Ow tChn 85 (w3.setCell ⟨w.heap.size + 2, 1, none⟩ (.slice A3 (k + 1) c3)) (fun i => (F i ∧ i < w.heap.size) ∨ w.heap.size + 2 < i) (.slice A3 (k + 1) c3) (((s.kc.take k).map fun p => p.2.trim a) ++ [x]) ∧
    (∀ j, (Value.slice A3 (k + 1) c3).ownBlock = some j → w.heap.size + 2 < j) ∧ Fr (fun i => i = w.heap.size + 2) W (w3.setCell ⟨w.heap.size + 2, 1, none⟩ (.slice A3 (k + 1) c3)) := by
  have hlt := blk_lt hb1
  have hb2 : ((w1.alloc o1).alloc o2).heap[w.heap.size + 2]? = some (.cells #[.slice A s.kc.length c, v, .int .i64 s.now] 29 (0, 0)) := (((Fr.refl No w1).alloc o1).alloc o2).blk hb1 (fun f => f)
  have hb3 := (hg.block (w.heap.size + 2) (blk_lt hb2) (fun e => by have := I.box _ e.symm; omega)).trans hb2
  have hb4 := blk_set hb3 1 (.slice A3 (k + 1) c3)
  have hn : ¬ (((F (w.heap.size + 2) ∧ w.heap.size + 2 < w.heap.size) ∨ w.heap.size + 2 < w.heap.size + 2) ∨ ((w1.alloc o1).alloc o2).heap.size ≤ w.heap.size + 2) := by simp; omega
  refine ⟨hb3, by simpa using hb4, (ho.set ⟨w.heap.size + 2, 1, none⟩ hn _).mono fun i hi _ => ?_, fun j hj => ?_, ?_⟩
  · rcases hi with hi | hi
    · exact hi
    · simp at hi; exact .inr (by omega)
  · rcases hat with hat | hat
    · exact I.box j (by rw [← hat]; exact hj)
    · rw [hj] at hat; injection hat with hat; simp at hat; omega
  · have h1 : Fr (fun i => i = w.heap.size + 2) W ((w1.alloc o1).alloc o2) := ((I.fr.trans (hf1.mono fun _ _ f => f.elim)).alloc o1).alloc o2
    have h3 : Fr (fun i => i = w.heap.size + 2) W w3 := h1.grown hg fun j hj => .inr (by have := I.box j hj; omega)
    exact h3.set _ (.inl rfl) _

set_option maxHeartbeats 4000000 in
set_option maxRecDepth 100000 in
theorem ref_trim {w : World} {F : Nat → Prop} {v : Value} {s : Sto} {m : Nat} (a : Int) (h : StoVal w F v s) (hs : s.Fine m) (hm : m ≤ 100000000) :
    Calls Try.prog 25 #[v, .int .i64 a] w fun e w' => ∃ u, e = .returned (.tuple #[u, .int .i64 (s.cut a)]) ∧ StoVal w' (fun i => F i ∨ w.heap.size ≤ i) u (s.trim a) ∧ Fr No w w' := by
  obtain ⟨A, c, B, d, rfl, h1, h2, h3, h4⟩ := h
  have hkl : (s.kc.length : Int) ≤ 100000000 := by have := hs.small.keys; omega
  obtain ⟨W, hW⟩ : ∃ W, W = ((w.alloc (.cells #[.slice A s.kc.length c, .slice B s.kc.length d, .int .i64 s.now] 29)).alloc (.cells #[.slice none 0 0, .slice none 0 0, .int .i64 0] 29)).alloc (.cells #[.slice A s.kc.length c, .slice none 0 0, .int .i64 s.now] 29) := ⟨_, rfl⟩
  have hf : Fr No w W := by rw [hW]; exact (((Fr.refl No w).alloc _).alloc _).alloc _
  have hsW : W.heap.size = w.heap.size + 3 := by rw [hW]; simp
  have hb0 : W.heap[w.heap.size]? = some (.cells #[.slice A s.kc.length c, .slice B s.kc.length d, .int .i64 s.now] 29 (0, 0)) := by rw [hW]; exact blk_three1 ..
  have hb1 : W.heap[w.heap.size + 1]? = some (.cells #[.slice none 0 0, .slice none 0 0, .int .i64 0] 29 (0, 0)) := by rw [hW]; exact blk_three2 ..
  have hb2 : W.heap[w.heap.size + 2]? = some (.cells #[.slice A s.kc.length c, .slice none 0 0, .int .i64 s.now] 29 (0, 0)) := by rw [hW]; exact blk_three3 ..
  have H := Lib.hid (And.intro hs (And.intro (And.intro h1 (h3.mono fun i hi hl => (⟨hi, hl⟩ : F i ∧ i < w.heap.size))) (And.intro (h4.mono fun i hi hl => (⟨hi, hl⟩ : F i ∧ i < w.heap.size)) (And.intro hf (And.intro hsW (And.intro hb0 (And.intro hb1 hb2)))))))
  clear hs h1 h2 h3 h4 hf hsW hb0 hb1 hb2
  go_enter Try.func25, Try.ntmps25
  go_wp2
  rw [← hW]
  clear hW
  go_loopw [7, 8] (fun n i wr => ∃ (k n' : Nat) (v : Value), i = .int .i64 k ∧ n = .int .i64 n' ∧ Hid (RTrimInv w W wr F s a A c k v n')) (fun _ i _ => s.kc.length - (intOf i).toNat)
  case atStart => exact ⟨0, 0, .slice none 0 0, rfl, rfl, ⟨Nat.zero_le _, by simp, H.out.2.2.2.2.2.2.2, by simpa using Ow.nil, fun j hj => by simp [Value.ownBlock] at hj, Fr.refl _ _⟩⟩
  case round =>
    obtain ⟨k, n, v, rfl, rfl, I⟩ := hrel
    obtain ⟨A2, cv, rfl, hc2, hr2⟩ := I.out.own.slice
    clear hc2 hr2
    have hlk : ((s.kc.take k).map fun p => p.2.trim a).length = k := by rw [List.length_map, List.length_take]; have := I.out.le; omega
    rw [hlk] at I
    have HLk := Lib.hid hlk
    clear hlk
    have hb0 := I.out.fr.blk H.out.2.2.2.2.2.1 (by omega)
    have b1 := blk_cell hb0 1
    simp at b1
    have hq0 : (0 : Int) ≤ (k : Int) := Int.natCast_nonneg _
    have hn0 : (0 : Int) ≤ (n : Int) := Int.natCast_nonneg _
    by_cases hlt : k < s.kc.length
    · have hq1 : (k : Int) < (s.kc.length : Int) := by omega
      have hfr : Fr (fun i => i = w.heap.size + 2) w wr := (H.out.2.2.2.1.mono fun _ _ f => f.elim).trans (I.out.fr.mono fun i _ hi => .inl hi)
      obtain ⟨ad, A', c', rfl, x0, x1, hc', hrd⟩ := chn_at (H.out.2.2.1.fr hfr fun i hi e => by have := hi.2; omega) (i := k) (by simpa using hlt)
      simp only [List.getElem_map] at x0 x1 hc' hrd
      have hch := H.out.1.small.chains _ (List.getElem_mem hlt)
      have htr := ref_ctrim (c := s.kc[k].2) (cp := c') a hrd (H.out.1.oks _ (List.getElem_mem hlt)) (by omega) hc'
      have hst := sum_take (l := s.kc.map fun p => p.2.cut a) (k := k) (by simpa using hlt)
      rw [List.getElem_map] at hst
      have hsum : ((s.kc.map fun p => p.2.cut a).take (k + 1)).sum ≤ 10000000000000000 := by
        have := sum_le (s.kc.map fun p => p.2.cut a) 100000000 (fun x hx => by
          obtain ⟨p, hp, rfl⟩ := List.mem_map.1 hx
          have := (H.out.1.small.chains p hp).1
          have := cut_le p.2 a
          omega)
        rw [List.length_map] at this
        have := sum_take_le (s.kc.map fun p => p.2.cut a) (k + 1)
        omega
      rw [hst, ← I.out.sum] at hsum
      have htk : (s.kc.take (k + 1)).map (fun p => p.2.trim a) = (s.kc.take k).map (fun p => p.2.trim a) ++ [s.kc[k].2.trim a] := by
        rw [List.take_succ_eq_append_getElem hlt, List.map_append]; rfl
      obtain ⟨ch, hch'⟩ : ∃ ch, s.kc[k].2 = ch := ⟨_, rfl⟩
      rw [hch'] at x0 x1 htr hst hsum htk
      obtain ⟨q, hq⟩ : ∃ q, ch.cut a = q := ⟨_, rfl⟩
      rw [hq] at htr hst hsum
      have hz0 : (0 : Int) ≤ (q : Int) := Int.natCast_nonneg _
      have hz1 : (n : Int) + (q : Int) ≤ 10000000000000000 := by omega
      have HX := Lib.hid (And.intro htr (And.intro hst htk))
      clear htr hst htk hch hch' hc' hrd hsum hq hfr hb0
      go_wp2_with (first
        | (go_at_call 42; refine HX.out.1.mono ?_; rintro e w1 ⟨u, rfl, ⟨A1, c1, rfl, hc1, hr1⟩, hf1⟩
           have hb2 := hf1.blk I.out.blk (fun f => f)
           have k1 := blk_cell hb2 1
           have z1 := blk_frozen hb2 1
           simp at k1
           have k1a := fun o => cell_alloc k1 o
           have H1 := Lib.hid (And.intro hc1 (And.intro hr1 (And.intro hf1 hb2)))
           clear hc1 hr1 hf1 hb2)
        | (at_builtin; refine ow_append tChn (ys := [ch.trim a]) (((I.out.own.fr0 H1.out.2.2.1).fr0 ((Fr.refl No _).alloc _)).fr0 ((Fr.refl No _).alloc _)) _ _ (.agg #[.slice none 0 0, .int .i64 0]) 32 rfl rfl Try.underlying27 info_rchn rfl (by decide) (by decide) rfl rfl rfl
             (Row.single (tChn_mk (l := (ch.trim a).l) (n := (ch.trim a).last) (A := A1) (c := c1) H1.out.1 (((H1.out.2.1.fr0 ((Fr.refl No _).alloc _)).fr0 ((Fr.refl No _).alloc _)).mono fun i hi hl => ?qf))) (At.block (blk_two2 _ _ _)) ?ql ?_
           case qf => exact ⟨.inl hi, fun he => by have := I.out.box i he; have := hi.2; omega⟩
           case ql => rw [HLk.out]; simp; omega
           intro A3 c3 w3 hown3 hg3 hat3
           have hlen3 : ((s.kc.take k).map fun p => p.2.trim a).length + [ch.trim a].length = k + 1 := by rw [HLk.out]; rfl
           rw [hlen3] at hown3 hat3 ⊢
           have hnx := rtrim_next H.out.2.2.2.2.1 H1.out.2.2.1 H1.out.2.2.2 I.out hown3 hg3 hat3
           have k3 := blk_cell hnx.1 1
           have z3 := blk_frozen hnx.1 1
           simp at k3
           have H3 := Lib.hid hnx
           clear hnx hown3 hg3 hat3 hlen3))
      go_roundw
      case rel => exact ⟨k + 1, n + q, .slice A3 (k + 1) c3, by go_num, by go_num, ⟨by omega, by rw [HX.out.2.1, ← I.out.sum], H3.out.2.1, by rw [HX.out.2.2]; exact H3.out.2.2.1, H3.out.2.2.2.1, H3.out.2.2.2.2⟩⟩
      case measure => simp [intOf]; omega
    · obtain rfl : k = s.kc.length := by have := I.out.le; omega
      have c0 := blk_cell I.out.blk 0
      have c1 := blk_cell I.out.blk 1
      have c2 := blk_cell I.out.blk 2
      have hbr := I.out.fr.blk H.out.2.2.2.2.2.2.1 (by omega)
      have r0 := blk_cell hbr 0
      have r1 := blk_cell hbr 1
      have r2 := blk_cell hbr 2
      have z0 := blk_frozen hbr 0
      have z1 := blk_frozen hbr 1
      have z2 := blk_frozen hbr 2
      simp at c0 c1 c2 r0 r1 r2
      have hb4 := blk_set (blk_set (blk_set hbr 0 (.slice A s.kc.length c)) 1 (.slice A2 s.kc.length cv)) 2 (.int .i64 s.now)
      have d0 := blk_cell hb4 0
      have d1 := blk_cell hb4 1
      have d2 := blk_cell hb4 2
      simp at d0 d1 d2
      have hnF : ∀ i, (F i ∧ i < w.heap.size) ∨ w.heap.size + 2 < i → i ≠ w.heap.size + 1 := fun i hi => by rcases hi with hi | hi; have := hi.2; omega; omega
      have hkeys := ((((H.out.2.1.2.fr H.out.2.2.2.1 (fun _ _ f => f)).fr I.out.fr fun i hi e => by have := hi.2; omega).set2 ⟨w.heap.size + 1, 0, none⟩ (fun hi => absurd hi.2 (by simp)) (.slice A s.kc.length c)).set2 ⟨w.heap.size + 1, 1, none⟩ (fun hi => absurd hi.2 (by simp)) (.slice A2 s.kc.length cv)).set2 ⟨w.heap.size + 1, 2, none⟩ (fun hi => absurd hi.2 (by simp)) (.int .i64 s.now)
      have hI := I.out.own.rd
      have hchs := ((hI.2.2.set2 ⟨w.heap.size + 1, 0, none⟩ (fun hi => hnF _ hi rfl) (.slice A s.kc.length c)).set2 ⟨w.heap.size + 1, 1, none⟩ (fun hi => hnF _ hi rfl) (.slice A2 s.kc.length cv)).set2 ⟨w.heap.size + 1, 2, none⟩ (fun hi => hnF _ hi rfl) (.int .i64 s.now)
      have hfr : Fr No w (((wr.setCell ⟨w.heap.size + 1, 0, none⟩ (.slice A s.kc.length c)).setCell ⟨w.heap.size + 1, 1, none⟩ (.slice A2 s.kc.length cv)).setCell ⟨w.heap.size + 1, 2, none⟩ (.int .i64 s.now)) :=
        (((H.out.2.2.2.1.trans (I.out.fr.mono fun i _ e => .inr (by omega))).set _ (.inr (by simp)) _).set _ (.inr (by simp)) _).set _ (.inr (by simp)) _
      have hn : (n : Int) = (s.cut a : Int) := by
        rw [I.out.sum, List.take_of_length_le (by simp)]; rfl
      have HE := Lib.hid (And.intro hkeys (And.intro hchs (And.intro hfr (And.intro hn (And.intro hI.2.1 (And.intro d0 (And.intro d1 d2)))))))
      clear hkeys hchs hfr hn hI d0 d1 d2 hb4 hnF hbr
      go_wp2
      obtain ⟨hkeys, hchs, hfr, hn, hc2, d0, d1, d2⟩ := HE.out
      refine bodyPost_ret (v := .tuple #[.agg #[.slice A s.kc.length c, .slice A2 s.kc.length cv, .int .i64 s.now], .int .i64 n]) (by simp [results, Try.results25, go_sem, d0, d1, d2]) rfl ⟨_, by rw [hn], ⟨A, c, A2, cv, ?_, ?_, ?_, ?_, ?_⟩, hfr⟩
      · show _ = Value.agg #[.slice A (s.kc.map _).length c, .slice A2 (s.kc.map _).length cv, .int .i64 s.now]
        rw [List.length_map]
      · show (s.kc.map _).length ≤ c
        rw [List.length_map]; exact H.out.2.1.1
      · show (s.kc.map _).length ≤ cv
        rw [List.length_map]; exact hc2
      · show Rd Ty.str _ _ A ((s.kc.map fun p => (p.1, p.2.trim a)).map Prod.fst)
        rw [List.map_map]
        exact hkeys.mono fun i hi _ => .inl hi.1
      · show Rd tChn _ _ A2 ((s.kc.map fun p => (p.1, p.2.trim a)).map Prod.snd)
        rw [List.map_map]
        rw [List.take_length] at hchs
        exact hchs.mono fun i hi _ => by rcases hi with hi | hi; exact .inl hi.1; exact .inr (by omega)
end Go.Proofs.Ytehlfcdipoognaa
