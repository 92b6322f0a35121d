/- Layer 13 (store): Scan. -/
import Derived.Test.YtkcppngopdiljaaStore2
set_option linter.unusedVariables false
set_option linter.unusedSimpArgs false
namespace Go.Proofs.Ytkcppngopdiljaa
open Go.RowKit

theorem info_item : (Try.prog.info? 65).map (fun i => (i.zero, i.size, i.bytes)) = some (some (.agg #[.string ⟨#[]⟩, .slice none 0 0]), 2, 40) := by kernel_rfl
theorem str_at {w : World} {F : Nat → Prop} {A : Option Addr} {ks : List ByteArray} (h : Rd Ty.str w F A ks) {i : Nat} (hi : i < ks.length) : ∃ ad, A = some ad ∧ w.cell? (ad.add i) = some (.string ks[i]) := by
  obtain ⟨ad, c, e, hk, e0, _⟩ := h.get' hi (by decide)
  obtain rfl : c = _ := hk
  have := e0 _ rfl
  rw [show Ty.str.sz = 1 from rfl, Nat.mul_one] at this
  exact ⟨ad, e, this⟩

theorem size_isEmpty (b : ByteArray) : b.toList.isEmpty = decide (b.size = 0) := by
  have h : b.size = b.toList.length := by rw [toList_data, Array.length_toList]; rfl
  rw [h]
  cases b.toList <;> simp

/-- What the loop holds at a round's head: k keys were seen. -/
structure ScanInv (w w1 : World) (s : Sto) (a : Int) (lo hi : ByteArray) (most : Int) (k n : Nat) (v : Value) (wr : World) : Prop where
  le : k ≤ s.kc.length
  len : n = ((s.kc.take k).filterMap (Sto.sel a lo hi)).length
  own : Ow tItem 65 wr (fun i => w1.heap.size ≤ i) v ((s.kc.take k).filterMap (Sto.sel a lo hi))
  most : (((s.kc.take k).filterMap (Sto.sel a lo hi)).length : Int) ≤ max most 0
  fr : Fr No w1 wr

theorem ScanInv.skip {w w1 : World} {s : Sto} {a : Int} {lo hi : ByteArray} {most : Int} {k n : Nat} {v : Value} {wr wr' : World} (I : ScanInv w w1 s a lo hi most k n v wr) {q : ByteArray × Chn} (hk : k < s.kc.length)
    (hs : (s.kc.take (k + 1)).filterMap (Sto.sel a lo hi) = (s.kc.take k).filterMap (Sto.sel a lo hi) ++ (Sto.sel a lo hi q).toList) (hn : Sto.sel a lo hi q = none) (f : Fr No wr wr') : ScanInv w w1 s a lo hi most (k + 1) n v wr' := by
  rw [hn] at hs
  have e : (s.kc.take (k + 1)).filterMap (Sto.sel a lo hi) = (s.kc.take k).filterMap (Sto.sel a lo hi) := by simpa using hs
  exact ⟨hk, by rw [e]; exact I.len, by rw [e]; exact I.own.fr0 f, by rw [e]; exact I.most, I.fr.trans (f.mono fun _ _ f => f.elim)⟩

theorem ScanInv.add {w w1 : World} {s : Sto} {a : Int} {lo hi : ByteArray} {most : Int} {k n : Nat} {v : Value} {wr w' : World} (I : ScanInv w w1 s a lo hi most k n v wr) {q : ByteArray × Chn} {x : Item} {A : Option Addr} {c : Nat} (hk : k < s.kc.length)
    (hs : (s.kc.take (k + 1)).filterMap (Sto.sel a lo hi) = (s.kc.take k).filterMap (Sto.sel a lo hi) ++ (Sto.sel a lo hi q).toList) (hn : Sto.sel a lo hi q = some x) (hm : (n : Int) < most) (hf : Fr No w1 w')
    (ho : Ow tItem 65 w' (fun i => w1.heap.size ≤ i) (.slice A (n + 1) c) ((s.kc.take k).filterMap (Sto.sel a lo hi) ++ [x])) : ScanInv w w1 s a lo hi most (k + 1) (n + 1) (.slice A (n + 1) c) w' := by
  rw [hn] at hs
  have e : (s.kc.take (k + 1)).filterMap (Sto.sel a lo hi) = (s.kc.take k).filterMap (Sto.sel a lo hi) ++ [x] := hs
  have hl := I.len
  exact ⟨hk, by rw [e]; simp; omega, by rw [e]; exact ho, by rw [e]; simp; omega, hf⟩

set_option maxHeartbeats 2000000 in
theorem store_scan {w : World} {F : Nat → Prop} {sb : Nat} {s : Sto} {m : Nat} (h : StoreAt w F sb s) (hs : s.Small m) (hm : m ≤ 100000000) (a : Int) (lo hi : ByteArray) (most : Int) :
    Calls Try.prog 45 #[.pointer (some ⟨sb, 0, none⟩), .int .i64 a, .string lo, .string hi, .int .i64 most] w fun e w' =>
      ∃ A c, e = .returned (.slice A (s.scan a lo hi most).length c) ∧ Ow tItem 65 w' (fun i => w.heap.size ≤ i) (.slice A (s.scan a lo hi most).length c) (s.scan a lo hi most) ∧ Fr No w w' := by
  have hk := store_keys h hs hm
  have hkl : (s.kc.length : Int) ≤ 100000000 := by have := hs.keys; omega
  have HH := Lib.hid (And.intro hk (And.intro h (And.intro hs hm)))
  clear hk h hs hm
  have fin : ∀ (w1 wr : World) (k n : Nat) (A2 : Option Addr) (c2 : Nat), Fr No w w1 → ScanInv w w1 s a lo hi most k n (.slice A2 n c2) wr → s.scan a lo hi most = (s.kc.take k).filterMap (Sto.sel a lo hi) →
      ∃ A c, Ending.returned (.slice A2 n c2) = .returned (.slice A (s.scan a lo hi most).length c) ∧ Ow tItem 65 wr (fun i => w.heap.size ≤ i) (.slice A (s.scan a lo hi most).length c) (s.scan a lo hi most) ∧ Fr No w wr := by
    intro w1 wr k n A2 c2 hf I e
    have := I.own
    rw [e]
    obtain rfl := I.len
    exact ⟨A2, c2, rfl, this.mono (fun i hi _ => by have := hf.size; omega), hf.trans (I.fr.mono fun _ _ f => f.elim)⟩
  have FIN := Lib.hid fin
  clear fin
  go_enter Try.func45, Try.ntmps45
  go_wp2_with (go_at_call 66; refine HH.out.1.mono ?_; rintro e w1 ⟨A, c, rfl, hr, hc, hf1⟩; have HR := Lib.hid (And.intro hr hf1); clear hr hf1)
  go_loopw [11, 19] (fun v i wr => ∃ (k n : Nat) (A2 : Option Addr) (c2 : Nat), v = .slice A2 n c2 ∧ i = .int .i64 k ∧ Hid (ScanInv w w1 s a lo hi most k n (.slice A2 n c2) wr)) (fun _ i _ => s.kc.length - (intOf i).toNat)
  case atStart => exact ⟨0, 0, none, 0, rfl, rfl, ⟨Nat.zero_le _, rfl, Ow.nil, by simp; omega, Fr.refl _ _⟩⟩
  case round =>
    obtain ⟨k, n, A2, c2, rfl, rfl, I⟩ := hrel
    by_cases hlt : k < s.kc.length
    · obtain ⟨ad, rfl, x0⟩ := str_at (HR.out.1.fr0 I.out.fr) (i := k) (by simpa using hlt)
      have hwr : Fr No w wr := HR.out.2.trans (I.out.fr.mono fun _ _ f => f.elim)
      have hget := store_get (HH.out.2.1.fr0 hwr) HH.out.2.2.1 HH.out.2.2.2 a s.kc[k].1
      have hlook : s.get a s.kc[k].1 = s.kc[k].2.get a := sto_get_some (look_of_mem HH.out.2.1.rising.nodup (List.getElem_mem hlt)) a
      rw [hlook] at hget
      have hsel := Sto.sel_step (a := a) (lo := lo) (hi := hi) hlt
      have hstop2 := Sto.scan_stop2 (a := a) (lo := lo) (hi := hi) (most := most) HH.out.2.1.rising hlt
      rw [List.getElem_map] at x0
      obtain ⟨q, hq⟩ : ∃ q, s.kc[k] = q := ⟨_, rfl⟩
      rw [hq] at x0 hget hsel hstop2
      have HG := Lib.hid (And.intro hget (And.intro hsel (And.intro hstop2 hwr)))
      clear hget hsel hstop2 hlook hq hwr
      have hk0 : (0 : Int) ≤ (k : Int) := Int.natCast_nonneg _
      have hk1 : (k : Int) < (s.kc.length : Int) := by omega
      by_cases h1 : most ≤ (n : Int)
      · go_wp2
        go_ret
        exact FIN.out w1 wr k n A2 c2 HR.out.2 I.out (Sto.scan_stop1 (by rw [← I.out.len]; exact h1) I.out.most)
      · cases h2 : hi.toList.isEmpty <;> cases h3 : Op.bytesLess q.1.toList hi.toList
        case false.false =>
          go_wp2
          go_ret
          exact FIN.out w1 wr k n A2 c2 HR.out.2 I.out (HG.out.2.2.1 (by rw [size_isEmpty] at h2; simpa using h2) h3 I.out.most)
        all_goals
          have hpass : Hid (hi.size = 0 ∨ kl q.1 hi = true) := by first | exact .inr h3 | exact .inl (by rw [size_isEmpty] at h2; simpa using h2)
          cases hr : q.2.get a with
          | none =>
            have hsel : Sto.sel a lo hi q = none := by unfold Sto.sel; rw [hr]
            have HS := Lib.hid hsel
            clear hsel
            rw [hr] at HG
            clear hr
            go_wp2_with (go_at_call 36; refine HG.out.1.mono ?_; rintro e w2 ⟨⟨A1, c1, rfl, ho1⟩, hf2⟩; have HO1 := Lib.hid ho1; clear ho1)
            go_roundw
            case rel => exact ⟨k + 1, n, A2, c2, rfl, by go_num, I.out.skip hlt HG.out.2.1 HS.out hf2⟩
            case measure => simp [intOf]; omega
          | some row =>
            rw [hr] at HG
            cases h4 : Op.bytesLess q.1.toList lo.toList
            · have hsel : Sto.sel a lo hi q = some (q.1, row) := by unfold Sto.sel; rw [hr]; exact if_pos ⟨h4, hpass.out⟩
              have HS := Lib.hid hsel
              clear hsel hr
              go_wp2_with (first
                | (go_at_call 36; refine HG.out.1.mono ?_; rintro e w2 ⟨⟨A1, c1, rfl, ho1⟩, hf2⟩; have HO1 := Lib.hid ho1; clear ho1)
                | (at_builtin; refine ow_append tItem (ys := [(q.1, row)]) ((I.out.own.fr0 hf2).fr0 ((Fr.refl No w2).alloc _)) _ _ _ 40 rfl rfl Try.underlying62 info_item rfl (by decide) (by decide) rfl rfl rfl
                    (Row.single (tItem_mk (A := A1) (c := c1) HO1.out.rd.2.1 ((HO1.out.rd.2.2.fr0 ((Fr.refl No w2).alloc _)).mono fun i hi hl => ?qf))) (At.block (heap_alloc_new _ _)) ?ql ?_
                   case qf => exact ⟨by have := I.out.fr.size; have hi' : wr.heap.size ≤ i := hi; omega, fun he => by have := (I.out.own.own he).2; have hi' : wr.heap.size ≤ i := hi; omega⟩
                   case ql => have := I.out.len; have := List.length_filterMap_le (Sto.sel a lo hi) (s.kc.take k); have := List.length_take_le k s.kc; simp; omega
                   intro A3 c3 w3 hown3 hg3 hat3
                   have hw3 : Fr No w1 w3 := (((I.out.fr.trans (hf2.mono fun _ _ f => f.elim)).alloc _).grown hg3 fun i hi => .inr (I.out.own.own hi).1)
                   have hown4 : Ow tItem 65 w3 (fun i => w1.heap.size ≤ i) (.slice A3 (n + 1) c3) ((s.kc.take k).filterMap (Sto.sel a lo hi) ++ [(q.1, row)]) := by
                     have h5 := hown3
                     rw [← I.out.len] at h5
                     exact h5.mono fun i hi _ => by have := I.out.fr.size; have := hf2.size; simp at hi; omega
                   have hlen3 : ((s.kc.take k).filterMap (Sto.sel a lo hi)).length + [(q.1, row)].length = n + 1 := by rw [← I.out.len]; rfl
                   rw [hlen3]
                   have H3 := Lib.hid (And.intro hw3 hown4)
                   clear hw3 hown4 hown3 hg3 hat3 hlen3))
              go_roundw
              case rel => exact ⟨k + 1, n + 1, A3, c3, rfl, by go_num, I.out.add hlt HG.out.2.1 HS.out (by omega) H3.out.1 H3.out.2⟩
              case measure => simp [intOf]; omega
            · have hsel : Sto.sel a lo hi q = none := by unfold Sto.sel; rw [hr]; exact if_neg (by show ¬ (kl q.1 lo = false ∧ _); rw [show kl q.1 lo = true from h4]; simp)
              have HS := Lib.hid hsel
              clear hsel hr
              go_wp2_with (go_at_call 36; refine HG.out.1.mono ?_; rintro e w2 ⟨⟨A1, c1, rfl, ho1⟩, hf2⟩; have HO1 := Lib.hid ho1; clear ho1)
              go_roundw
              case rel => exact ⟨k + 1, n, A2, c2, rfl, by go_num, I.out.skip hlt HG.out.2.1 HS.out hf2⟩
              case measure => simp [intOf]; omega
    · obtain rfl : k = s.kc.length := by have := I.out.le; omega
      go_wp2
      go_ret
      have e := I.out.most
      rw [List.take_length] at e
      exact FIN.out w1 wr _ n A2 c2 HR.out.2 I.out (by rw [List.take_length]; exact Sto.scan_end e)
end Go.Proofs.Ytkcppngopdiljaa
