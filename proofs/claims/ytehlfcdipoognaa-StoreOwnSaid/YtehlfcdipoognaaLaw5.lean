/- Laws of layer 13 (store): like: is all that a store tells the document's? -/
import Derived.Test.YtehlfcdipoognaaLaw4
set_option linter.unusedVariables false
set_option linter.unusedSimpArgs false
namespace Go.Proofs.Ytehlfcdipoognaa
open Go.RowKit

set_option maxHeartbeats 4000000 in
set_option maxRecDepth 100000 in
theorem law_like {w : World} {FS FM : Nat → Prop} {sb m : Nat} {v : Value} {s : Sto} (hS : StoreAt w FS sb s) (hV : StoVal w FM v s) (hs : s.Fine m) (hm : m ≤ 100000000) :
    Calls Try.prog 24 #[.pointer (some ⟨sb, 0, none⟩), v] w fun e w' => e = .returned (.bool true) ∧ Fr No w w' := by
  obtain ⟨hn0, hn1⟩ := nowi hs (by omega)
  have hV0 := hV
  obtain ⟨A, c, B, d, rfl, _⟩ := hV
  obtain ⟨W, hW⟩ : ∃ W, W = w.alloc (.cells #[.slice A s.kc.length c, .slice B s.kc.length d, .int .i64 s.now] 29) := ⟨_, rfl⟩
  have hfW : Fr No w W := by rw [hW]; exact (Fr.refl No w).alloc _
  have hbW : W.heap[w.heap.size]? = some (.cells #[.slice A s.kc.length c, .slice B s.kc.length d, .int .i64 s.now] 29 (0, 0)) := by rw [hW]; exact heap_alloc_new w _
  have hw1 : IntKind.i64.wrap (s.now + 1) = s.now + 1 := IntWalk.i64_in _ (by omega)
  have H := Lib.hid (And.intro (hS.fr0 hfW) (And.intro (hV0.fr0 hfW) (And.intro hs (And.intro hfW hbW))))
  clear hS hV0 hs hfW hbW
  go_enter Try.func24, Try.ntmps24
  go_wp2_with fail
  rw [← hW]
  clear hW
  go_loopw [5] (fun v wr => ∃ a : Int, v = .int .i64 a ∧ -1 ≤ a ∧ a ≤ s.now + 2 ∧ Hid (Fr No W wr)) (fun v _ => (s.now + 2 - intOf v).toNat)
  case atStart => exact ⟨-1, rfl, by omega, by omega, Fr.refl _ _⟩
  case round =>
    obtain ⟨wo, hwo⟩ : ∃ wo, wo = wr := ⟨_, rfl⟩
    subst hwo
    obtain ⟨a, rfl, ha0, ha1, hf⟩ := hrel
    have hb := hf.out.blk H.out.2.2.2.2 (fun f => f)
    have a0 := blk_cell hb 0
    have a1 := blk_cell hb 1
    have a2 := blk_cell hb 2
    simp at a0 a1 a2
    clear hb
    have hwa : IntKind.i64.wrap (a + 1) = a + 1 := IntWalk.i64_in _ (by omega)
    by_cases hlt : a ≤ s.now + 1
    · go_wp2_with fail
      go_loopw [6] (fun v wr => ∃ k : Nat, v = .int .i64 k ∧ k ≤ 13 ∧ Hid (Fr No W wr)) (fun v _ => 13 - (intOf v).toNat)
      case atStart => exact ⟨0, rfl, by omega, hf⟩
      case round =>
        obtain ⟨wi, hwi⟩ : ∃ wi, wi = wr := ⟨_, rfl⟩
        subst hwi
        obtain ⟨k, rfl, hk, hfi⟩ := hrel
        have hk0 : (0 : Int) ≤ (k : Int) := Int.natCast_nonneg _
        by_cases hlt2 : k < 13
        · have hk1 : (k : Int) < 13 := by omega
          have hw8 : IntKind.u8.wrap (k : Int) = (k : Int) := by
            simp [IntKind.wrap, IntKind.signed, IntKind.bits]; omega
          obtain ⟨key, hkey⟩ : ∃ key, kq (UInt8.ofNat k) = key := ⟨_, rfl⟩
          have kc := fun w0 => run_kq w0 (UInt8.ofNat k)
          have hh : ((UInt8.ofNat k).toNat : Int) = (k : Int) := by rw [UInt8.toNat_ofNat']; omega
          simp only [hh, hkey] at kc
          have hget := fun w' (f : Fr No W w') => store_get (H.out.1.fr0 f) H.out.2.2.1.small hm a key
          have hrget := fun w' (f : Fr No W w') => ref_get a key (H.out.2.1.fr0 f) H.out.2.2.1 hm
          have hlast := fun w' (f : Fr No W w') => store_last (H.out.1.fr0 f) key
          have hrlast := fun w' (f : Fr No W w') => ref_last key (H.out.2.1.fr0 f) H.out.2.2.1 hm
          obtain ⟨g, hg⟩ : ∃ g, s.get a key = g := ⟨_, rfl⟩
          obtain ⟨la, hla⟩ : ∃ la, s.last key = la := ⟨_, rfl⟩
          simp only [hg] at hget hrget
          simp only [hla] at hlast hrlast
          have HG := Lib.hid (And.intro hget (And.intro hrget (And.intro hlast hrlast)))
          clear hget hrget hlast hrlast hg hla hkey hh
          go_wp2_with fail
          refine (HG.out.1 _ (hfi.out.alloc _)).mono ?_
          rintro e1 w1 ⟨⟨A1, c1, rfl, ho1⟩, hf1⟩
          have hf1' : Fr No W w1 := (hfi.out.alloc _).trans (hf1.mono fun _ _ f => f.elim)
          have hb1 := hf1'.blk H.out.2.2.2.2 (fun f => f)
          have a0 := blk_cell hb1 0
          have a1 := blk_cell hb1 1
          have a2 := blk_cell hb1 2
          simp at a0 a1 a2
          have H1 := Lib.hid (And.intro ho1 hf1')
          clear ho1 hf1 hf1' hb1
          go_wp2_with fail
          refine (HG.out.2.1 _ H1.out.2).mono ?_
          rintro e2 w2 ⟨⟨A2, c2, rfl, hc2, hr2⟩, hf2⟩
          have hf2' : Fr No W w2 := H1.out.2.trans (hf2.mono fun _ _ f => f.elim)
          have hby := fun w' (f : Fr No w2 w') => ref_bytes_q (c := c1) (d := c2) ((H1.out.1.rd.2.2.fr0 hf2).fr0 f) (hr2.fr0 f)
          have a0 := hf2.cell a0 (fun f => f)
          have a1 := hf2.cell a1 (fun f => f)
          have a2 := hf2.cell a2 (fun f => f)
          obtain ⟨bs, hbs⟩ : ∃ bs, g.isSome = bs := ⟨_, rfl⟩
          obtain ⟨r, hr⟩ : ∃ r, g.getD [] = r := ⟨_, rfl⟩
          simp only [hr, decide_true] at hby
          rw [hr, hbs]
          have HB := Lib.hid (And.intro hby hf2')
          clear hby hc2 hr2 hf2' hf2 hbs hr
          have hbb : (bs != bs) = false := by simp
          have hll : (la != la) = false := by simp
          go_wp2_with fail
          go_region_held3 (fun w' => w'.cell? ⟨w.heap.size, 0, none⟩ = some (.slice A s.kc.length c) ∧ w'.cell? ⟨w.heap.size, 1, none⟩ = some (.slice B s.kc.length d) ∧ w'.cell? ⟨w.heap.size, 2, none⟩ = some (.int .i64 s.now))
            (first
              | exact ⟨a0, a1, a2⟩
              | exact ⟨q0, q1, q2⟩)
            (first
              | (go_at_call 23; refine (HB.out.1 _ (by repeat (first | assumption | exact Fr.refl _ _ | apply Fr.drew | apply Fr.drewN))).mono ?_; rintro e7 w7 ⟨rfl, m7, rfl⟩)
              | (go_at_call 28; refine (HG.out.2.2.1 _ (by repeat (first | assumption | exact HB.out.2 | apply Fr.drew | apply Fr.drewN))).mono ?_; rintro e8 w8 ⟨rfl, rfl⟩)
              | (go_at_call 40; refine (HG.out.2.2.2 _ (by repeat (first | assumption | exact HB.out.2 | apply Fr.drew | apply Fr.drewN))).mono ?_; rintro e9 w9 ⟨rfl, hf9⟩
                 have hg9 : Fr No w2 w9 := Fr.trans (by repeat (first | assumption | exact Fr.refl _ _ | apply Fr.drew | apply Fr.drewN)) (hf9.mono fun _ _ f => f.elim)
                 have hW9 : Fr No W w9 := HB.out.2.trans (hg9.mono fun _ _ f => f.elim)
                 have q0 := hg9.cell a0 (fun f => f)
                 have q1 := hg9.cell a1 (fun f => f)
                 have q2 := hg9.cell a2 (fun f => f)
                 clear hf9))
          all_goals
            go_wp2
            go_roundw
            case rel => exact ⟨k + 1, by go_num, by omega, by show Fr No W _; repeat (first | assumption | exact HB.out.2 | apply Fr.drew | apply Fr.drewN)⟩
            case measure => simp [intOf]; omega
        · obtain rfl : k = 13 := by omega
          go_wp2
          go_roundw
          case rel => exact ⟨a + 1, by go_num, by omega, by omega, hfi⟩
          case measure => simp [intOf]; omega
    · have hlen := fun w' (f : Fr No W w') => store_len (H.out.1.fr0 f) H.out.2.2.1.small hm
      have hrlen := fun w' (f : Fr No W w') => ref_len (H.out.2.1.fr0 f) H.out.2.2.1 hm
      have hnow := fun w' (f : Fr No W w') => store_now (H.out.1.fr0 f)
      obtain ⟨n, hn⟩ : ∃ n, s.len = n := ⟨_, rfl⟩
      simp only [hn] at hlen hrlen
      have HL := Lib.hid (And.intro hlen (And.intro hrlen hnow))
      have hnn : ((n : Int) == (n : Int)) = true := by simp
      have hnw : (s.now == s.now) = true := by simp
      clear hlen hrlen hnow hn
      have hfo := hf.out
      go_wp2_with fail
      go_region_held3 (fun w' => w'.cell? ⟨w.heap.size, 0, none⟩ = some (.slice A s.kc.length c) ∧ w'.cell? ⟨w.heap.size, 1, none⟩ = some (.slice B s.kc.length d) ∧ w'.cell? ⟨w.heap.size, 2, none⟩ = some (.int .i64 s.now))
        (first
          | exact ⟨a0, a1, a2⟩
          | exact ⟨q0, q1, q2⟩
          | exact ⟨r0, r1, r2⟩)
        (first
          | (go_at_call 19; refine (HL.out.2.2 _ (by repeat (first | assumption | apply Fr.drew | apply Fr.drewN))).mono ?_; rintro e7 w7 ⟨rfl, rfl⟩)
          | (go_at_call 27; refine (HL.out.1 _ (by repeat (first | assumption | apply Fr.drew | apply Fr.drewN))).mono ?_; rintro e8 w8 ⟨rfl, hf8⟩
             have hg8 : Fr No wo w8 := Fr.trans (by repeat (first | assumption | exact Fr.refl _ _ | apply Fr.drew | apply Fr.drewN)) (hf8.mono fun _ _ f => f.elim)
             have hW8 : Fr No W w8 := hfo.trans (hg8.mono fun _ _ f => f.elim)
             have q0 := hg8.cell a0 (fun f => f)
             have q1 := hg8.cell a1 (fun f => f)
             have q2 := hg8.cell a2 (fun f => f)
             clear hf8)
          | (go_at_call 41; refine (HL.out.2.1 _ (by repeat (first | assumption | apply Fr.drew | apply Fr.drewN))).mono ?_; rintro e9 w9 ⟨rfl, hf9⟩
             have hg9 : Fr No wo w9 := Fr.trans (by repeat (first | assumption | exact Fr.refl _ _ | apply Fr.drew | apply Fr.drewN)) (hf9.mono fun _ _ f => f.elim)
             have hW9 : Fr No W w9 := hfo.trans (hg9.mono fun _ _ f => f.elim)
             have r0 := hg9.cell a0 (fun f => f)
             have r1 := hg9.cell a1 (fun f => f)
             have r2 := hg9.cell a2 (fun f => f)
             clear hf9))
      all_goals
        go_wp2
        go_ret
        exact ⟨rfl, H.out.2.2.2.1.trans (Fr.mono (F := No) (by repeat (first | assumption | apply Fr.drew | apply Fr.drewN)) fun _ _ f => f.elim)⟩
end Go.Proofs.Ytehlfcdipoognaa
