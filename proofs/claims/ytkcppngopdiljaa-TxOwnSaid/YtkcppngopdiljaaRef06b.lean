/- Reference 06 (record): Batch. -/
import Derived.Test.YtkcppngopdiljaaSpec06b
import Derived.Test.YtkcppngopdiljaaRef06
import Derived.Test.YtkcppngopdiljaaRef1b
import Derived.Test.YtkcppngopdiljaaLaw1
import Derived.Laws.BytesArg
import Derived.Deep.RegionHeld3
import Derived.BigQuiet
set_option linter.unusedVariables false
set_option linter.unusedSimpArgs false
namespace Go.Proofs.Ytkcppngopdiljaa
open Go.RowKit

theorem act_at {w : World} {F : Nat → Prop} {A : Option Addr} {l : List Actn} (h : Rd tAct w F A l) {i : Nat} (hi : i < l.length) :
    ∃ ad, A = some ad ∧ w.cell? (ad.add (i * 3)) = some (.int .u8 l[i].key.toNat) ∧ w.cell? ⟨(ad.add (i * 3)).block, (ad.add (i * 3)).off + 1, none⟩ = some (.int .u8 l[i].row.toNat) ∧
      w.cell? ⟨(ad.add (i * 3)).block, (ad.add (i * 3)).off + 2, none⟩ = some (.bool l[i].gone) := by
  obtain ⟨ad, cs, e, hk, e0, e1⟩ := h.get' hi (by decide)
  obtain ⟨_, _, rfl, rfl, _, _, rfl, rfl, rfl⟩ := hk
  exact ⟨ad, e, e0 _ rfl, e1 1 _ (by decide) rfl, e1 2 _ (by decide) rfl⟩

theorem run_kq (w : World) (q : UInt8) : (convert 27 9 (.slice (some ⟨w.heap.size, 0, none⟩) 2 2)).run Try.prog (w.alloc (.cells #[.int .u8 107, .int .u8 (q.toNat : Int)] 5)) = .ok (.string (kq q)) (w.alloc (.cells #[.int .u8 107, .int .u8 (q.toNat : Int)] 5)) := by
  have hb : (w.alloc (.cells #[.int .u8 107, .int .u8 (q.toNat : Int)] 5)).heap[w.heap.size]? = some (.cells #[.int .u8 107, .int .u8 (q.toNat : Int)] 5 (0, 0)) := heap_alloc_new w _
  have := run_convert_bytes_arg (P := Try.prog) (w.alloc (.cells #[.int .u8 107, .int .u8 (q.toNat : Int)] 5)) 27 5 Try.underlying27 Try.underlying5 w.heap.size 0 2 2 [107, (q.toNat : Int)] rfl (fun i hi => by
    rw [Nat.zero_add, blk_cell hb i]
    match i, hi with
    | 0, _ => rfl
    | 1, _ => rfl) 9 Try.underlying9
  have hs : strOfNums [107, (q.toNat : Int)] = kq q := by simp [strOfNums, kq]
  rw [hs] at this
  exact this

theorem run_kq12 (w : World) (q : UInt8) : (convert 27 9 (.slice (some ⟨w.heap.size, 0, none⟩) 2 2)).run Try.prog (w.alloc (.cells #[.int .u8 107, .int .u8 ((q.toNat : Int) % 12)] 5)) = .ok (.string (kq (q % 12))) (w.alloc (.cells #[.int .u8 107, .int .u8 ((q.toNat : Int) % 12)] 5)) := by
  have hmod : (q.toNat : Int) % 12 = ((q % 12).toNat : Int) := by rw [UInt8.toNat_mod]; rfl
  rw [hmod]
  exact run_kq w (q % 12)

/-- The document's boxes. -/
structure BBox (w wr : World) (n : Int) (v : Value) : Prop where
  b0 : wr.heap[w.heap.size]? = some (.cells #[.int .i64 0, .slice none 0 0] 40 (0, 0))
  b1 : wr.heap[w.heap.size + 1]? = some (.cells #[.int .i64 n, v] 40 (0, 0))
  fr : Fr No w wr
theorem BBox.fr0 {w wr w' : World} {n : Int} {v : Value} (h : BBox w wr n v) (f : Fr No wr w') : BBox w w' n v := ⟨f.blk h.b0 (fun f => f), f.blk h.b1 (fun f => f), h.fr.trans (f.mono fun _ _ f => f.elim)⟩
theorem BBox.size {w wr : World} {n : Int} {v : Value} (h : BBox w wr n v) : w.heap.size + 2 ≤ wr.heap.size := blk_lt h.b1

theorem BBox.step {w wr w' : World} {n : Int} {v : Value} (h : BBox w wr n v) {S : Nat → Prop} (f : Fr S wr w') (hS : ∀ i, S i → w.heap.size + 1 < i) : BBox w w' n v :=
  ⟨f.blk h.b0 (fun h => by have := hS _ h; omega), f.blk h.b1 (fun h => by have := hS _ h; omega), h.fr.trans (f.mono fun i _ hi => .inr (by have := hS _ hi; omega))⟩


theorem info_awr : (Try.prog.info? 43).map (fun i => (i.zero, i.size, i.bytes)) = some (some (.agg #[.string ⟨#[]⟩, .slice none 0 0, .bool false]), 3, 48) := by kernel_rfl

/-- A write in a box of its own. -/
structure RWr (wr wx : World) (x : Wr) (b : Nat) : Prop where
  lt : wr.heap.size ≤ b
  fr : Fr No wr wx
  box : ∃ A' c', wx.heap[b]? = some (.cells #[.string x.key, .slice A' x.row.length c', .bool x.gone] 43 (0, 0)) ∧ x.row.length ≤ c' ∧ Rd Ty.u8 wx (fun i => wr.heap.size ≤ i ∧ i ≠ b) A' x.row
theorem RWr.fr0 {wr wx w' : World} {x : Wr} {b : Nat} (h : RWr wr wx x b) (f : Fr No wx w') : RWr wr w' x b := by
  obtain ⟨h1, h2, A', c', h3, h4, h5⟩ := h
  exact ⟨h1, h2.trans (f.mono fun _ _ f => f.elim), A', c', f.blk h3 (fun f => f), h4, h5.fr0 f⟩
theorem RWr.row {wr wx : World} {x : Wr} {b : Nat} (h : RWr wr wx x b) (r : UInt8) (g : Bool) :
    RWr wr (((wx.alloc (.cells #[.int .u8 (r.toNat : Int)] 5)).setCell ⟨b, 1, none⟩ (.slice (some ⟨wx.heap.size, 0, none⟩) 1 1)).setCell ⟨b, 2, none⟩ (.bool g)) ⟨x.key, [r], g⟩ b := by
  obtain ⟨h1, h2, A', c', h3, h4, h5⟩ := h
  have hlt := blk_lt h3
  have hf : Fr No wr (wx.alloc (.cells #[.int .u8 (r.toNat : Int)] 5)) := h2.alloc _
  have hb := blk_set (blk_set (((Fr.refl No wx).alloc (.cells #[.int .u8 (r.toNat : Int)] 5)).blk h3 (fun f => f)) 1 (.slice (some ⟨wx.heap.size, 0, none⟩) 1 1)) 2 (.bool g)
  have hs := h2.size
  refine ⟨h1, (hf.set _ (.inr h1) _).set _ (.inr h1) _, some ⟨wx.heap.size, 0, none⟩, 1, by simpa using hb, Nat.le_refl _, ?_⟩
  have hrd : Rd Ty.u8 (wx.alloc (.cells #[.int .u8 (r.toNat : Int)] 5)) (fun i => wr.heap.size ≤ i ∧ i ≠ b) (some ⟨wx.heap.size, 0, none⟩) [r] :=
    Rd.block (heap_alloc_new wx _) ⟨hs, by omega⟩ ⟨[.int .u8 r.toNat], [], rfl, rfl, rfl⟩ (by simp)
  exact (hrd.set2 ⟨b, 1, none⟩ (fun h => h.2 rfl) _).set2 ⟨b, 2, none⟩ (fun h => h.2 rfl) _
theorem RWr.fin {wr wx : World} {x : Wr} {b : Nat} (h : RWr wr wx x b) (hg : x.gone = true) : RWr wr (wx.setCell ⟨b, 1, none⟩ (.slice none 0 0)) ⟨x.key, [], true⟩ b := by
  obtain ⟨h1, h2, A', c', h3, h4, h5⟩ := h
  have hb := blk_set h3 1 (.slice none 0 0)
  rw [hg] at hb
  exact ⟨h1, h2.set _ (.inr h1) _, none, 0, by simpa using hb, Nat.le_refl _, Rd.nil⟩

/-- What stands at the outer loop's head. -/
structure RBat (w wc wr : World) (n : Int) (l : List Actn) (K : List ByteArray) (q : Nat) (v : Value) : Prop where
  le : q ≤ K.length
  blk : wr.heap[w.heap.size + 1]? = some (.cells #[.int .i64 n, v] 40 (0, 0))
  own : Ow tWr 43 wr (fun i => wc.heap.size ≤ i) v ((K.take q).map fun k => finW (accW k l))
  box : ∀ j, v.ownBlock = some j → wc.heap.size ≤ j
  fr : Fr (fun i => i = w.heap.size + 1) wc wr

theorem rbat_next {w wc wr wx w3 : World} {n : Int} {l : List Actn} {K : List ByteArray} {A3 : Option Addr} {c3 q b : Nat} {v : Value} {x : Wr} {o : Obj} (hbc : w.heap.size + 1 < wc.heap.size)
    (I : RBat w wc wr n l K q v) (hx : RWr wr wx x b) (ho : Ow tWr 43 w3 (fun i => wc.heap.size ≤ i ∨ (wx.alloc o).heap.size ≤ i) (.slice A3 (q + 1) c3) (((K.take q).map fun k => finW (accW k l)) ++ [x]))
    (hg : (wx.alloc o).grownBy w3 v.ownBlock) (hat : (Value.slice A3 (q + 1) c3).ownBlock = v.ownBlock ∨ (Value.slice A3 (q + 1) c3).ownBlock = some (wx.alloc o).heap.size) :
    w3.heap[w.heap.size + 1]? = some (.cells #[.int .i64 n, v] 40 (0, 0)) ∧
    (w3.setCell ⟨w.heap.size + 1, 1, none⟩ (.slice A3 (q + 1) c3)).heap[w.heap.size + 1]? = some (.cells #[.int .i64 n, .slice A3 (q + 1) c3] 40 (0, 0)) ∧
    Ow tWr 43 (w3.setCell ⟨w.heap.size + 1, 1, none⟩ (.slice A3 (q + 1) c3)) (fun i => wc.heap.size ≤ i) (.slice A3 (q + 1) c3) (((K.take q).map fun k => finW (accW k l)) ++ [x]) ∧
    (∀ j, (Value.slice A3 (q + 1) c3).ownBlock = some j → wc.heap.size ≤ j) ∧ Fr (fun i => i = w.heap.size + 1) wc (w3.setCell ⟨w.heap.size + 1, 1, none⟩ (.slice A3 (q + 1) c3)) := by
  have hwr := I.fr.size
  have hxs := hx.fr.size
  have hb2 : (wx.alloc o).heap[w.heap.size + 1]? = some (.cells #[.int .i64 n, v] 40 (0, 0)) := ((hx.fr).alloc o).blk I.blk (fun f => f)
  have hb3 := (hg.block (w.heap.size + 1) (blk_lt hb2) (fun e => by have := I.box _ e.symm; omega)).trans hb2
  have hb4 := blk_set hb3 1 (.slice A3 (q + 1) c3)
  have hn : ¬ (wc.heap.size ≤ w.heap.size + 1 ∨ (wx.alloc o).heap.size ≤ w.heap.size + 1) := by simp; omega
  refine ⟨hb3, by simpa using hb4, (ho.set ⟨w.heap.size + 1, 1, none⟩ hn _).mono fun i hi _ => ?_, fun j hj => ?_, ?_⟩
  · rcases hi with hi | hi
    · exact hi
    · simp at hi; show wc.heap.size ≤ i; omega
  · rcases hat with hat | hat
    · exact I.box j (by rw [← hat]; exact hj)
    · rw [hj] at hat; injection hat with hat; simp at hat; omega
  · have h1 : Fr (fun i => i = w.heap.size + 1) wc (wx.alloc o) := (I.fr.trans (hx.fr.mono fun _ _ f => f.elim)).alloc o
    have h3 : Fr (fun i => i = w.heap.size + 1) wc w3 := h1.grown hg fun j hj => .inr (I.box j hj)
    exact h3.set _ (.inl rfl) _

set_option maxHeartbeats 4000000 in
set_option maxRecDepth 100000 in
theorem ref_batch_own {w : World} {F : Nat → Prop} {D : Option Addr} {e : Nat} {l : List Actn} (n : Int) (h : Rd tAct w F D l) (hl : l.length ≤ 1000000) :
    Calls Try.prog 37 #[.int .i64 n, .slice D l.length e] w fun e w' => ∃ A c, e = .returned (.agg #[.int .i64 n, .slice A (batchW l).length c]) ∧ Fr No w w' ∧ Ow tWr 43 w' (fun i => w.heap.size ≤ i) (.slice A (batchW l).length c) (batchW l) := by
  have kc := run_kq12
  have hlI : (l.length : Int) ≤ 1000000 := by omega
  obtain ⟨W, hW⟩ : ∃ W, W = (w.alloc (.cells #[.int .i64 0, .slice none 0 0] 40)).alloc (.cells #[.int .i64 n, .slice none 0 0] 40) := ⟨_, rfl⟩
  have hB : BBox w W n (.slice none 0 0) := ⟨by rw [hW]; exact blk_two1 .., by rw [hW]; exact blk_two2 .., by rw [hW]; exact ((Fr.refl No w).alloc _).alloc _⟩
  have H := Lib.hid (And.intro (h.mono fun i hi hl => (⟨hi, hl⟩ : F i ∧ i < w.heap.size)) hB)
  clear h hB
  go_enter Try.func37, Try.ntmps37
  go_wp2_with fail
  rw [← hW]
  clear hW
  go_loopw [6, 7] (fun v i wr => ∃ (k : Nat) (A3 : Option Addr) (c3 : Nat), k ≤ l.length ∧ i = .int .i64 k ∧ v = .slice A3 k c3 ∧ Hid (Ow Ty.str 9 wr (fun i => w.heap.size + 1 < i) (.slice A3 k c3) ((l.take k).map actKey)) ∧ Hid (BBox w wr n (.slice none 0 0))) (fun _ i _ => l.length - (intOf i).toNat)
  case atStart => exact ⟨0, none, 0, Nat.zero_le _, rfl, rfl, by show Ow _ _ _ _ _ _; simpa using Ow.nil, H.out.2⟩
  case round =>
    obtain ⟨k, A3, c3, hk, rfl, rfl, hO, hB⟩ := hrel
    have hq0 : (0 : Int) ≤ (k : Int) := Int.natCast_nonneg _
    by_cases hlt : k < l.length
    · have hq1 : (k : Int) < (l.length : Int) := by omega
      obtain ⟨ad, rfl, x0, _, _⟩ := act_at (H.out.1.fr0 hB.out.fr) hlt
      have htk : (l.take (k + 1)).map actKey = (l.take k).map actKey ++ [kq (l[k].key % 12)] := by rw [List.take_succ_eq_append_getElem hlt, List.map_append]; rfl
      have hlk : ((l.take k).map actKey).length = k := by rw [List.length_map, List.length_take]; omega
      have HT := Lib.hid (And.intro htk hlk)
      clear htk hlk
      generalize l[k].key = x at *
      have hx0 : (0 : Int) ≤ (x.toNat : Int) := Int.natCast_nonneg _
      have hx1 : (x.toNat : Int) < 256 := by have := x.toNat_lt; omega
      have hmod : ((x % 12).toNat : Int) = (x.toNat : Int) % 12 := by rw [UInt8.toNat_mod]; rfl
      go_wp2_with (at_builtin; refine ow_append Ty.str (ys := [kq (x % 12)]) ((hO.out.fr0 ((Fr.refl No wr).alloc _)).fr0 ((Fr.refl No _).alloc _)) _ _ (.string ⟨#[]⟩) 16 rfl rfl Try.underlying52 info_str rfl (by decide) (by decide) rfl rfl rfl (Row.single (t := Ty.str) (x := kq (x % 12)) (c := [.string (kq (x % 12))]) rfl) (At.block (blk_two2 _ _ _)) (by rw [HT.out.2]; simp; omega) ?_
                   intro A4 c4 w4 hown4 hg4 hat4
                   have hlen4 : _ + [kq (x % 12)].length = k + 1 := congrArg (· + 1) HT.out.2
                   rw [hlen4] at hown4 ⊢
                   have hown5 : Ow Ty.str 9 w4 (fun i => w.heap.size + 1 < i) (.slice A4 (k + 1) c4) ((l.take k).map actKey ++ [kq (x % 12)]) := hown4.mono fun i hi _ => by
                     rcases hi with hi | hi
                     · exact hi
                     · have := hB.out.size; simp at hi; show w.heap.size + 1 < i; omega
                   have hB4 : BBox w w4 n (.slice none 0 0) := (hB.out.fr0 (((Fr.refl No wr).alloc _).alloc _)).step ((Fr.refl (fun i => some i = (Value.slice A3 k c3).ownBlock) _).grown hg4 fun j hj => .inl hj.symm) fun i hi => (hO.out.own hi.symm).1
                   have H4 := Lib.hid (And.intro hown5 hB4)
                   clear hown4 hg4 hat4 hlen4 hown5 hB4)
      go_roundw
      case rel => exact ⟨k + 1, A4, c4, by omega, by go_num, rfl, by rw [HT.out.1]; exact H4.out.1, H4.out.2⟩
      case measure => simp [intOf]; omega
    · obtain rfl : k = l.length := by omega
      rw [List.take_length] at hO
      have hlk : (l.map actKey).length = l.length := List.length_map ..
      have hrise := fun w' (f : Fr No wr w') => ref_rise (cp := c3) (hO.out.rd.2.2.fr0 f) (by rw [hlk]; omega)
      rw [hlk] at hrise
      have HRise := Lib.hid hrise
      clear hrise
      go_wp2_with (go_at_call 51; refine (HRise.out _ (Fr.refl _ _)).mono ?_; rintro e5 w5 ⟨A5, c5, rfl, ho5, hf5⟩
                   have H5 := Lib.hid (And.intro ho5 hf5)
                   clear ho5 hf5)
      obtain ⟨K, hKe⟩ : ∃ K, rise (l.map actKey) = K := ⟨_, rfl⟩
      rw [hKe] at H5
      rw [hKe]
      have hKl : K.length ≤ l.length := by
        rw [← hKe]
        have := rise_length (l.map actKey)
        omega
      have hKi : (K.length : Int) ≤ 1000000 := by omega
      have hbb := hB.out.fr0 H5.out.2
      have hk6 : Rd Ty.str w5 (fun i => w.heap.size + 1 < i ∧ i < w5.heap.size) (some ⟨0, 0, none⟩) ([] : List ByteArray) := Rd.nil
      have HK := Lib.hid (And.intro hKe (And.intro hbb (And.intro ((hO.out.rd.2.2.fr0 H5.out.2).mono fun i hi hl => (⟨hi, hl⟩ : w.heap.size + 1 < i ∧ i < w5.heap.size)) (And.intro H5.out.1.rd.2.1 (H5.out.1.rd.2.2.mono fun i hi hl => (⟨hi, hl⟩ : wr.heap.size ≤ i ∧ i < w5.heap.size))))))
      have hbc : w.heap.size + 1 < w5.heap.size := hbb.size
      have hwr2 := hB.out.size
      clear hKe hbb hk6 HRise hlk
      go_loopw [9] (fun i wo => ∃ (q : Nat) (v : Value), i = .int .i64 q ∧ Hid (RBat w w5 wo n l K q v)) (fun i _ => K.length - (intOf i).toNat)
      case atStart => exact ⟨0, .slice none 0 0, rfl, ⟨Nat.zero_le _, HK.out.2.1.b1, by simpa using Ow.nil, fun j hj => by simp [Value.ownBlock] at hj, Fr.refl _ _⟩⟩
      case round =>
        obtain ⟨wo, hwo⟩ : ∃ wo, wo = wr := ⟨_, rfl⟩
        subst hwo
        obtain ⟨q, v, rfl, I⟩ := hrel
        obtain ⟨A2, cv, rfl, hc2, hr2⟩ := I.out.own.slice
        clear hc2 hr2
        have hlk : ((K.take q).map fun k => finW (accW k l)).length = q := by rw [List.length_map, List.length_take]; have := I.out.le; omega
        rw [hlk] at I
        have HLk := Lib.hid hlk
        clear hlk
        have hq0 : (0 : Int) ≤ (q : Int) := Int.natCast_nonneg _
        by_cases hlt : q < K.length
        · have hq1 : (q : Int) < (K.length : Int) := by omega
          obtain ⟨ad8, rfl, x8⟩ := str_at (HK.out.2.2.2.2.fr I.out.fr fun i hi e => by have := hi.1; omega) hlt
          obtain ⟨key, hkey⟩ : ∃ key, K[q] = key := ⟨_, rfl⟩
          rw [hkey] at x8
          have htk : (K.take (q + 1)).map (fun k => finW (accW k l)) = (K.take q).map (fun k => finW (accW k l)) ++ [finW (accW key l)] := by rw [List.take_succ_eq_append_getElem hlt, List.map_append, hkey]; rfl
          have HX := Lib.hid htk
          clear htk hkey
          obtain ⟨W, hW⟩ : ∃ W, W = wo.alloc (.cells #[.string key, .slice none 0 0, .bool false] 43) := ⟨_, rfl⟩
          have hx0 : RWr wo W ⟨key, [], false⟩ wo.heap.size := ⟨Nat.le_refl _, by rw [hW]; exact (Fr.refl No wo).alloc _, none, 0, by rw [hW]; exact heap_alloc_new wo _, Nat.le_refl _, Rd.nil⟩
          have H0 := Lib.hid hx0
          clear hx0
          go_wp2_with fail
          rw [← hW]
          clear hW
          go_loopw [11] (fun i wi => ∃ (p : Nat), p ≤ l.length ∧ i = .int .i64 p ∧ Hid (RWr wo wi (accW key (l.take p)) wo.heap.size)) (fun i _ => l.length - (intOf i).toNat)
          case atStart => exact ⟨0, Nat.zero_le _, rfl, H0.out⟩
          case round =>
            obtain ⟨wi, hwi⟩ : ∃ wi, wi = wr := ⟨_, rfl⟩
            subst hwi
            obtain ⟨p, hp, rfl, HI⟩ := hrel
            have hp0 : (0 : Int) ≤ (p : Int) := Int.natCast_nonneg _
            have hfw : Fr (fun i => i = w.heap.size + 1) w5 wi := I.out.fr.trans (HI.out.fr.mono fun _ _ f => f.elim)
            have hfw0 : Fr No w wi := HK.out.2.1.fr.trans (hfw.mono fun i _ hi => .inr (by omega))
            have x8 := HI.out.fr.cell x8 (fun f => f)
            obtain ⟨key', row, gone, hxe⟩ : ∃ k r g, accW key (l.take p) = ⟨k, r, g⟩ := ⟨_, _, _, rfl⟩
            obtain rfl : key = key' := by have := (accW_key key (l.take p)).1; rw [hxe] at this; exact this.symm
            rw [hxe] at HI
            obtain ⟨A7, c7, hb7, hc7, hr7⟩ := HI.out.box
            have g0 := blk_cell hb7 0
            have g1 := blk_cell hb7 1
            have g2 := blk_cell hb7 2
            have zg1 := blk_frozen hb7 1
            have zg2 := blk_frozen hb7 2
            simp at g0 g1 g2
            have hbl := blk_lt hb7
            by_cases hlt2 : p < l.length
            · have hp1 : (p : Int) < (l.length : Int) := by omega
              obtain ⟨ad, rfl, _, y1, y2⟩ := act_at (H.out.1.fr0 hfw0) hlt2
              obtain ⟨ad6, rfl, x6⟩ := str_at (HK.out.2.2.1.fr hfw fun i hi e => by have := hi.1; omega) (i := p) (by rw [List.length_map]; exact hlt2)
              rw [List.getElem_map] at x6
              have hstep : accW key (l.take (p + 1)) = if actKey l[p] = key then ⟨key, [l[p].row], l[p].gone⟩ else accW key (l.take p) := by rw [List.take_succ_eq_append_getElem hlt2, accW_snoc]
              rw [hxe] at hstep
              have HS := Lib.hid hstep
              clear hstep hxe
              generalize actKey l[p] = ak at *
              generalize l[p].row = r at *
              generalize l[p].gone = g at *
              have HR := Lib.hid (And.intro hb7 (And.intro hc7 (And.intro hr7 (And.intro hfw hfw0))))
              clear hb7 hc7 hr7 hfw hfw0
              cases hb : (ak.toList == key.toList)
              · go_wp2_with fail
                go_quiet (fail)
                go_wp2
                go_roundw
                case rel =>
                  refine ⟨p + 1, by omega, by go_num, ?_⟩
                  show RWr wo _ (accW key (l.take (p + 1))) wo.heap.size
                  rw [HS.out, if_neg (by rw [beq_toList] at hb; simpa using hb)]
                  exact HI.out.fr0 ((Fr.refl No _).drewN _)
                case measure => simp [intOf]; omega
              · have hk : ak = key := by rw [beq_toList] at hb; simpa using hb
                have HS2 := Lib.hid (HS.out.trans (if_pos hk))
                clear hk
                have y1a := fun nq o => cell_alloc (w := wi.drewN nq) y1 o
                have y2a := fun nq o => cell_alloc (w := wi.drewN nq) y2 o
                have g1a := fun nq o => cell_alloc (w := wi.drewN nq) g1 o
                have g2a := fun nq o => cell_alloc (w := wi.drewN nq) g2 o
                have zg1a := fun nq o => blk_frozen (((Fr.refl No wi).drewN nq).alloc o |>.blk HR.out.1 (fun f => f)) 1
                have zg2a := fun nq o => blk_frozen (((Fr.refl No wi).drewN nq).alloc o |>.blk HR.out.1 (fun f => f)) 2
                go_wp2_with fail
                go_quiet (fail)
                go_wp2_with fail
                go_region
                all_goals
                  go_wp2
                  go_roundw
                  case rel =>
                    refine ⟨p + 1, by omega, by go_num, ?_⟩
                    show RWr wo _ (accW key (l.take (p + 1))) wo.heap.size
                    rw [HS2.out]
                    refine (HI.out.fr0 (w' := wi.drewN _) ?_).row r g
                    exact (Fr.refl No _).drewN _
                  case measure => simp [intOf]; omega
            · obtain rfl : p = l.length := by omega
              rw [List.take_length] at hxe
              have hI1 := I.out.blk
              have hbi := HI.out.fr.blk hI1 (fun f => f)
              have n1 := blk_cell hbi 1
              simp at n1
              have hwo : w.heap.size + 1 < wo.heap.size := blk_lt hI1
              have hne1 : w.heap.size + 1 ≠ wo.heap.size := by omega
              have hqi : ((q : Int) + 1) * 48 ≤ 140737488355328 := by omega
              have HR := Lib.hid (And.intro hb7 (And.intro hc7 (And.intro hr7 hfw)))
              clear hb7 hc7 hr7 hfw hfw0 hI1 hbi
              cases gone with
              | true =>
                have hF : finW (accW key l) = ⟨key, [], true⟩ := by rw [hxe]; rfl
                have HF := Lib.hid hF
                have HX2 := Lib.hid (HI.out.fin rfl)
                have hnw := heap_alloc_new (wi.setCell ⟨wo.heap.size, 1, none⟩ (.slice none 0 0)) (.cells #[.string key, .slice none 0 0, .bool true] 43)
                rw [show (wi.setCell ⟨wo.heap.size, 1, none⟩ (.slice none 0 0)).heap.size = wi.heap.size by simp [World.setCell]] at hnw
                have Hnw := Lib.hid hnw
                clear hF hxe hnw
                go_wp2_with (at_builtin; refine ow_append tWr (ys := [⟨key, [], true⟩]) ((I.out.own.fr0 HX2.out.fr).fr0 ((Fr.refl No _).alloc _)) _ _ (.agg #[.string ⟨#[]⟩, .slice none 0 0, .bool false]) 48 rfl rfl Try.underlying29 info_awr rfl (by decide) (by decide) rfl rfl rfl (Row.single (tWr_mk (a := key) (r := []) (g := true) (A := none) (c := 0) (Nat.le_refl 0) (((Rd.nil (t := Ty.u8) (w := wi.setCell ⟨wo.heap.size, 1, none⟩ (.slice none 0 0)) (F := fun i => wo.heap.size ≤ i ∧ i ≠ wo.heap.size) (A := none)).fr0 ((Fr.refl No _).alloc _)).mono fun i hi hl => ?qf))) (At.block Hnw.out) ?ql ?_
                             case qf =>
                               have h2 := I.out.fr.size
                               refine ⟨by have := hi.1; show w5.heap.size ≤ i; omega, fun he => ?_⟩
                               have h4 := (I.out.own.own he).2
                               have := hi.1; omega
                             case ql => rw [HLk.out]; simp; omega
                             intro A3n c3n w3 hown3 hg3 hat3
                             have hlen3 : ((K.take q).map fun k => finW (accW k l)).length + [(⟨key, [], true⟩ : Wr)].length = q + 1 := by rw [HLk.out]; rfl
                             rw [hlen3] at hown3 hat3 ⊢
                             have hnx := rbat_next hbc I.out HX2.out hown3 hg3 hat3
                             have k3 := blk_cell hnx.1 1
                             have z3 := blk_frozen hnx.1 1
                             simp at k3
                             have H3 := Lib.hid hnx
                             clear hnx hown3 hg3 hat3 hlen3)
                go_roundw
                case rel => exact ⟨q + 1, .slice A3n (q + 1) c3n, by go_num, ⟨by omega, H3.out.2.1, by rw [HX.out, HF.out]; exact H3.out.2.2.1, H3.out.2.2.2.1, H3.out.2.2.2.2⟩⟩
                case measure => simp [intOf]; omega
                
              | false =>
                have hF : finW (accW key l) = ⟨key, row, false⟩ := by rw [hxe]; rfl
                have HF := Lib.hid hF
                have HX2 := HI
                clear hF hxe
                go_wp2_with (at_builtin; refine ow_append tWr (ys := [⟨key, row, false⟩]) ((I.out.own.fr0 HX2.out.fr).fr0 ((Fr.refl No _).alloc _)) _ _ (.agg #[.string ⟨#[]⟩, .slice none 0 0, .bool false]) 48 rfl rfl Try.underlying29 info_awr rfl (by decide) (by decide) rfl rfl rfl (Row.single (tWr_mk (a := key) (r := row) (g := false) (A := A7) (c := c7) HR.out.2.1 ((HR.out.2.2.1.fr0 ((Fr.refl No _).alloc _)).mono fun i hi hl => ?qf))) (At.block (heap_alloc_new _ _)) ?ql ?_
                             case qf =>
                               have h2 := I.out.fr.size
                               refine ⟨by have := hi.1; show w5.heap.size ≤ i; omega, fun he => ?_⟩
                               have h4 := (I.out.own.own he).2
                               have := hi.1; omega
                             case ql => rw [HLk.out]; simp; omega
                             intro A3n c3n w3 hown3 hg3 hat3
                             have hlen3 : ((K.take q).map fun k => finW (accW k l)).length + [(⟨key, row, false⟩ : Wr)].length = q + 1 := by rw [HLk.out]; rfl
                             rw [hlen3] at hown3 hat3 ⊢
                             have hnx := rbat_next hbc I.out HX2.out hown3 hg3 hat3
                             have k3 := blk_cell hnx.1 1
                             have z3 := blk_frozen hnx.1 1
                             simp at k3
                             have H3 := Lib.hid hnx
                             clear hnx hown3 hg3 hat3 hlen3)
                go_roundw
                case rel => exact ⟨q + 1, .slice A3n (q + 1) c3n, by go_num, ⟨by omega, H3.out.2.1, by rw [HX.out, HF.out]; exact H3.out.2.2.1, H3.out.2.2.2.1, H3.out.2.2.2.2⟩⟩
                case measure => simp [intOf]; omega
                
        · obtain rfl : q = K.length := by have := I.out.le; omega
          have hbw : wo.heap[w.heap.size]? = some (.cells #[.int .i64 0, .slice none 0 0] 40 (0, 0)) := I.out.fr.blk HK.out.2.1.b0 (by omega)
          have b0 := blk_cell hbw 0
          have b1 := blk_cell hbw 1
          have z0 := blk_frozen hbw 0
          have z1 := blk_frozen hbw 1
          have c0 := blk_cell I.out.blk 0
          have c1 := blk_cell I.out.blk 1
          simp at b0 b1 c0 c1
          have hI := I.out.own.rd
          have hb4 := blk_set (blk_set hbw 0 (.int .i64 n)) 1 (.slice A2 K.length cv)
          have d0 := blk_cell hb4 0
          have d1 := blk_cell hb4 1
          simp at d0 d1
          have hfr : Fr No w ((wo.setCell ⟨w.heap.size, 0, none⟩ (.int .i64 n)).setCell ⟨w.heap.size, 1, none⟩ (.slice A2 K.length cv)) :=
            ((HK.out.2.1.fr.trans (I.out.fr.mono fun i _ e => .inr (by omega))).set _ (.inr (by simp)) _).set _ (.inr (by simp)) _
          have hrd := (I.out.own.set ⟨w.heap.size, 0, none⟩ (fun hi => by have hi' : w5.heap.size ≤ w.heap.size := hi; omega) (.int .i64 n)).set ⟨w.heap.size, 1, none⟩ (fun hi => by have hi' : w5.heap.size ≤ w.heap.size := hi; omega) (.slice A2 K.length cv)
          rw [List.take_length] at hrd
          have HE := Lib.hid (And.intro hrd (And.intro hfr (And.intro hI.2.1 (And.intro d0 d1))))
          clear hrd hfr hI d0 d1 hb4 hbw
          go_wp2
          obtain ⟨hrd, hfr, hc2, d0, d1⟩ := HE.out
          have hbk : batchW l = K.map fun k => finW (accW k l) := by unfold batchW; rw [HK.out.1]
          have hbl : (batchW l).length = K.length := by rw [hbk, List.length_map]
          refine bodyPost_ret (v := .agg #[.int .i64 n, .slice A2 K.length cv]) (by simp [results, Try.results37, go_sem, d0, d1]) rfl ⟨A2, cv, by rw [hbl], hfr, ?_⟩
          rw [hbl, hbk]
          exact hrd.mono fun i hi _ => by have hi' : w5.heap.size ≤ i := hi; omega
theorem ref_batch {w : World} {F : Nat → Prop} {D : Option Addr} {e : Nat} {l : List Actn} (n : Int) (h : Rd tAct w F D l) (hl : l.length ≤ 1000000) :
    Calls Try.prog 37 #[.int .i64 n, .slice D l.length e] w fun e w' => ∃ A c, e = .returned (.agg #[.int .i64 n, .slice A (batchW l).length c]) ∧ Fr No w w' ∧ (batchW l).length ≤ c ∧ Rd tWr w' (fun i => w.heap.size ≤ i) A (batchW l) := by
  refine (ref_batch_own (e := e) n h hl).mono ?_
  rintro e' w' ⟨A, c, he, hf, ho⟩
  exact ⟨A, c, he, hf, ho.rd.2.1, ho.rd.2.2⟩
end Go.Proofs.Ytkcppngopdiljaa
