/- slices.DeleteFunc at items. -/
import Derived.Test.YtkcppngopdiljaaTx7
set_option linter.unusedVariables false
set_option linter.unusedSimpArgs false
namespace Go.Proofs.Ytkcppngopdiljaa
open Go.RowKit

theorem zero_item (w : World) : (zeroValue 65).run Try.prog w = .ok (.agg #[.string ⟨#[]⟩, .slice none 0 0]) w := by kernel_rfl

/-- clear, of what stands behind the first i. -/
theorem run_clear_items {w : World} {g cap n i : Nat} {cur : Array Value} (hb : w.heap[g]? = some (.cells cur 65 (0, 0))) (hs : cur.size = cap * 2) (hi : i < n) (hn : n ≤ cap) (ty : TypeId) :
    ∃ w', (Builtin.clear_ #[62] ty #[.slice (some ⟨g, i * 2, none⟩) (n - i) (cap - i)]).run Try.prog w = .ok (.tuple #[]) w' ∧ Fr (fun k => k = g) w w' ∧
      ∃ cur', w'.heap[g]? = some (.cells cur' 65 (0, 0)) ∧ cur'.size = cap * 2 ∧ cur'.toList.take (i * 2) = cur.toList.take (i * 2) := by
  obtain ⟨m, hm⟩ : ∃ m, n - i = m + 1 := ⟨n - i - 1, by omega⟩
  obtain ⟨zs, hzs⟩ : ∃ zs, (Builtin.zeroCells (Value.agg #[.string ⟨#[]⟩, .slice none 0 0]).cells (m + 1)).toList = zs := ⟨_, rfl⟩
  have hzl : zs.length = (m + 1) * 2 := by rw [← hzs]; simp [Builtin.zeroCells, Value.cells]
  have hz1 : ∀ v ∈ zs, v.oneCell' = true := by
    intro v hv
    rw [← hzs] at hv
    simp only [Builtin.zeroCells, Value.cells, Array.toList_map, List.mem_map, Array.mem_toList_iff, Array.mem_range] at hv
    obtain ⟨t, ht, rfl⟩ := hv
    have : t % (#[Value.string ⟨#[]⟩, .slice none 0 0] : Array Value).size = 0 ∨ t % (#[Value.string ⟨#[]⟩, .slice none 0 0] : Array Value).size = 1 := by
      show t % 2 = 0 ∨ t % 2 = 1
      omega
    rcases this with e | e <;> rw [e] <;> rfl
  have hst := run_storeCells_at (P := Try.prog) g (i * 2) 65 zs 0 cur w hb (by omega) hz1
  obtain ⟨nc, hnc⟩ : ∃ nc, (cur.toList.take (i * 2 + 0) ++ zs ++ cur.toList.drop (i * 2 + 0 + zs.length)).toArray = nc := ⟨_, rfl⟩
  rw [hnc] at hst
  refine ⟨w.setRow g nc, ?_, ?_, nc, setRow_heap w g cur nc _ _ hb, ?_, ?_⟩
  · rw [hm]
    simp only [Builtin.clear_, List.getElem?_toArray, List.getElem?_cons_zero, run_underlying Try.underlying62, Sem.run_bind, Sem.run_pure, Result.andThen_ok, zero_item, hzs, hst]
  · refine ⟨rfl, rfl, rfl, by simp [World.setRow], fun k hk hn => ?_⟩
    unfold World.setRow
    rw [Array.getElem?_modify, if_neg (fun e => hn e.symm)]
  · rw [← hnc]; simp; omega
  · rw [← hnc, List.append_assoc, Nat.add_zero]
    rw [List.take_append_of_le_length (by simp; omega), List.take_take, Nat.min_self]

theorem cut_lo_at {P : Program} (ty e : TypeId) (sz : Nat) (kl : IntKind) (ht : P.underlying ty = some (.slice e)) (hi : (P.info? e).map (·.size) = some sz) (g n c lo : Nat) (hlo : lo ≤ n) (hc : n ≤ c) (hne : lo < c) (W : World) :
    (Instr.slice ty (.slice (some ⟨g, 0, none⟩) n c) (some (.int kl (lo : Int))) none none).run P W = .ok (.slice (some ⟨g, lo * sz, none⟩) (n - lo) (c - lo)) W := by
  obtain ⟨i0, hi0, hsz⟩ := Option.map_eq_some_iff.1 hi
  have hel : P.elem ty = e := by simp [Program.elem, ht]
  have hu : P.underlying ty = some (.slice (P.elem ty)) := by rw [hel]; exact ht
  have hne' : ¬ c = lo := by omega
  rw [run_slice_l W ty _ n c hu kl (lo : Int) (Int.natCast_nonneg _) (by omega), hel]
  simp [sizeOf, typeInfo, hi0, hsz, sliced, Result.andThen, hne', add0]
theorem cut_hi_at {P : Program} (ty e : TypeId) (sz : Nat) (kh : IntKind) (ht : P.underlying ty = some (.slice e)) (hi : (P.info? e).map (·.size) = some sz) (A : Option Addr) (n c up : Nat) (hup : up ≤ n) (hc : n ≤ c) (W : World) :
    (Instr.slice ty (.slice A n c) none (some (.int kh (up : Int))) none).run P W = .ok (.slice A up c) W := by
  obtain ⟨i0, hi0, hsz⟩ := Option.map_eq_some_iff.1 hi
  have hel : P.elem ty = e := by simp [Program.elem, ht]
  have hu : P.underlying ty = some (.slice (P.elem ty)) := by rw [hel]; exact ht
  rw [run_slice_h W ty A n c hu kh (up : Int) (Int.natCast_nonneg _) (by omega), hel]
  have e : A.map (·.add (0 * sz)) = A := by cases A <;> simp [Addr.add]
  have e2 : A.map (·.add 0) = A := by simpa using e
  simp [sizeOf, typeInfo, hi0, hsz, sliced, Result.andThen, e2]

theorem DelInv.start {p : ByteArray → Bool} {w : World} {F : Nat → Prop} {g c : Nat} {cs : List Value} {xs : List Item} {k : Nat} (hk : k < xs.length) (hr : Row tItemO w (fun k => F k ∧ k ≠ g) xs cs) {cur : Array Value} (hb : w.heap[g]? = some (.cells cur 65 (0, 0))) (hs : cur.size = c * 2) (hn : xs.length ≤ c) (hcs : cur.toList.take (xs.length * 2) = cs)
    (hp : p xs[k].1 = true) (hpk : ∀ x ∈ xs.take k, p x.1 = false) : DelInv p w F g c cs xs k (k + 1) w := by
  have e1 : ((xs.take k).filter fun x => !p x.1) = xs.take k := List.filter_eq_self.2 fun x hx => by rw [hpk x hx]; rfl
  have e : ((xs.take (k + 1)).filter fun x => !p x.1) = xs.take k := by
    rw [List.take_succ_eq_append_getElem hk, List.filter_append, e1]; simp [hp]
  refine ⟨by rw [e]; simp; omega, by omega, ⟨cur, hb, hs, ?_, fun t _ ht => ?_⟩, Fr.refl _ _⟩
  · rw [e]
    have := hr.take k
    rw [← hcs, List.take_take, show tItemO.sz = 2 from rfl, Nat.min_eq_left (by omega)] at this
    exact this
  · rw [← hcs, List.getElem?_take, if_pos ht, Array.getElem?_toList]

theorem DelInv.ow {p : ByteArray → Bool} {w : World} {F : Nat → Prop} {g c : Nat} {cs : List Value} {xs : List Item} {i : Nat} {wr : World} (hF : F g) (hcm : c ≤ maxLen) (hn : xs.length ≤ c) (I : DelInv p w F g c cs xs i xs.length wr) :
    ∃ cur, wr.heap[g]? = some (.cells cur 65 (0, 0)) ∧ cur.size = c * 2 ∧ ∀ w' cur', Fr (fun k => k = g) wr w' → w'.heap[g]? = some (.cells cur' 65 (0, 0)) → cur'.size = c * 2 → cur'.toList.take (i * 2) = cur.toList.take (i * 2) →
      i = (xs.filter fun x => !p x.1).length ∧ Ow tItemO 65 w' F (.slice (some ⟨g, 0, none⟩) i c) (xs.filter fun x => !p x.1) ∧ Fr (fun k => k = g) w w' := by
  obtain ⟨h1, h2, ⟨cur, h3, h4, h5, h6⟩, h7⟩ := I
  rw [List.take_length] at h1 h5
  refine ⟨cur, h3, h4, fun w' cur' f hb hs ht => ⟨h1, ⟨cur.toList.take (i * 2), ⟨by have := h5.len; rw [this], .inr ⟨g, c, cur', by rw [← h1], Nat.zero_le _, hb, by omega, hcm, hs, by rw [← h1]; exact ht⟩⟩, ?_, fun k hk => ?_⟩, h7.trans (f.mono fun _ _ e => .inl e)⟩⟩
  · refine (h5.stab fun k hk hl => f.block k hl hk.2).mono fun k hk _ => ⟨hk.1, fun e => hk.2 ?_⟩
    simpa [Value.ownBlock] using e.symm
  · obtain rfl : g = k := by simpa [Value.ownBlock] using hk
    exact hF

set_option maxHeartbeats 2000000 in
set_option maxRecDepth 100000 in
theorem delete_ok (gf : Nat) (caps : Array Value) (p : ByteArray → Bool) {w : World} {F : Nat → Prop} {A : Option Addr} {c : Nat} {xs : List Item} (h : Ow tItemO 65 w F (.slice A xs.length c) xs) (hl : xs.length ≤ 1000000000)
    (he : ∀ args w, Sem.run Try.prog (callFunc gf args) w = .ok (.enter gf args) w)
    (hg : ∀ i (hi : i < xs.length) A' n c' w', Fr (fun k => (Value.slice A xs.length c).ownBlock = some k) w w' → Calls Try.prog gf (#[.agg #[.string xs[i].1, .slice A' n c']] ++ caps) w' fun e w'' => e = .returned (.bool (p xs[i].1)) ∧ Fr No w' w'') :
    Calls Try.prog 44 #[.slice A xs.length c, .func (.func gf) #[] caps] w fun e w' =>
      ∃ n, e = .returned (.slice A n c) ∧ Ow tItemO 65 w' F (.slice A n c) (xs.filter fun x => !p x.1) ∧ Fr (fun k => (Value.slice A xs.length c).ownBlock = some k) w w' := by
  have hix := index_item gf caps p (c := c) h.rd.2.2 hl he fun i hi A' n c' w' f => hg i hi A' n c' w' (f.mono fun _ _ f => f.elim)
  have H := Lib.hid (And.intro hix (And.intro h hg))
  have hli : (xs.length : Int) ≤ 1000000000 := by omega
  clear hix h hg
  go_enter Try.func44, Try.ntmps44
  go_wp2_with fail
  refine H.out.1.mono ?_
  rintro e1 w1 ⟨r, rfl, hr, hf1⟩
  rcases hr with ⟨rfl, hall⟩ | ⟨k0, hk0, rfl, hp0, hpk⟩
  · have HF := Lib.hid (And.intro hall hf1)
    clear hall hf1
    go_wp2_with fail
    go_ret
    have e : (xs.filter fun x => !p x.1) = xs := List.filter_eq_self.2 fun x hx => by rw [HF.out.1 x hx]; rfl
    exact ⟨_, rfl, by rw [e]; exact H.out.2.1.fr0 HF.out.2, HF.out.2.mono fun _ _ f => f.elim⟩
  · have ho := H.out.2.1.fr0 hf1
    obtain ⟨cs, ho1, ho2, ho3⟩ := ho
    rcases ho1.2 with ⟨_, h4⟩ | ⟨g, cap, cur, h4, _, hb, hnc, hcm, hsz, htk⟩
    · omega
    · injection h4 with h5 h6 h7
      subst h5
      subst h7
      have hown : (Value.slice (some ⟨g, 0, none⟩) xs.length c).ownBlock = some g := rfl
      have hrow : Row tItemO w1 (fun k => F k ∧ k ≠ g) xs cs := ho2.mono fun k hk _ => ⟨hk.1, fun e => hk.2 (by rw [hown, e])⟩
      have hcells : ∀ t, t < xs.length * 2 → cur[t]? = cs[t]? := fun t ht => by rw [← htk, List.getElem?_take, if_pos (show t < xs.length * tItemO.sz from ht), Array.getElem?_toList]
      have hst := DelInv.start hk0 hrow hb hsz hnc htk hp0 hpk
      have hcall := fun i hi A' n c' w' (f : Fr (fun k => k = g) w1 w') => H.out.2.2 i hi A' n c' w' ((hf1.mono fun _ _ f => f.elim).trans (f.mono fun k _ e => .inl (by rw [hown, e])))
      have HC := Lib.hid (And.intro hst (And.intro hcall (And.intro hrow (And.intro hcm (And.intro (ho3 g rfl) (And.intro hf1 hnc))))))
      have hci : (xs.length : Int) ≤ (c : Int) := by omega
      have hk0i : (k0 : Int) < (xs.length : Int) := by omega
      have hk00 : (0 : Int) ≤ (k0 : Int) := Int.natCast_nonneg _
      have hne : ((k0 : Int) == -1) = false := beq_eq_false_iff_ne.2 (by omega)
      clear hst hcall hrow hf1 ho1 ho2 ho3 htk hcells hpk hp0 hown hb hsz hcm hnc
      go_wp2_with fail
      go_loopw [5, 6] (fun i j wr => ∃ a b : Nat, b ≤ xs.length ∧ i = .int .i64 a ∧ j = .int .i64 b ∧ Hid (DelInv p w1 F g c cs xs a b wr)) (fun _ j _ => xs.length - (intOf j).toNat)
      case atStart => exact ⟨k0, k0 + 1, by omega, rfl, by go_num, HC.out.1⟩
      case round =>
        obtain ⟨i, j, hj, rfl, rfl, I⟩ := hrel
        have hij := I.out.le
        have hi0 : (0 : Int) ≤ (i : Int) := Int.natCast_nonneg _
        have hj0 : (0 : Int) ≤ (j : Int) := Int.natCast_nonneg _
        have hiji : (i : Int) < (j : Int) := by omega
        by_cases hlt : j < xs.length
        · have hlti : (j : Int) < (xs.length : Int) := by omega
          obtain ⟨cs2, hk2, hcs2⟩ := HC.out.2.2.1.get hlt
          obtain ⟨A', c', rfl, hbo⟩ := tItemO_open hk2
          obtain ⟨cur2, hb2, hs2, _, hrest⟩ := I.out.blk
          have x0 : wr.cell? ⟨g, j * 2, none⟩ = some (.string xs[j].1) := by rw [blk_cell hb2, hrest _ (by omega) (by omega)]; exact hcs2 0 (by decide)
          have x1 : wr.cell? ⟨g, j * 2 + 1, none⟩ = some (.slice A' xs[j].2.length c') := by rw [blk_cell hb2, hrest _ (by omega) (by omega)]; exact hcs2 1 (by decide)
          have z0 := blk_frozen hb2 (i * 2)
          have z1 := blk_frozen hb2 (i * 2 + 1)
          have y0 : ∃ u, wr.cell? ⟨g, i * 2, none⟩ = some u := ⟨cur2[i * 2]'(by have := HC.out.2.2.2.2.2.2; omega), by rw [blk_cell hb2]; exact Array.getElem?_eq_getElem _⟩
          have y1 : ∃ u, wr.cell? ⟨g, i * 2 + 1, none⟩ = some u := ⟨cur2[i * 2 + 1]'(by have := HC.out.2.2.2.2.2.2; omega), by rw [blk_cell hb2]; exact Array.getElem?_eq_getElem _⟩
          obtain ⟨u0, y0⟩ := y0
          obtain ⟨u1, y1⟩ := y1
          have hgl : g < wr.heap.size := blk_lt hb2
          obtain ⟨W, hW⟩ : ∃ W, W = wr.alloc (.cells #[.string xs[j].1, .slice A' xs[j].2.length c'] 65) := ⟨_, rfl⟩
          have hfW : Fr No wr W := by rw [hW]; exact (Fr.refl No wr).alloc _
          have hbW : W.heap[wr.heap.size]? = some (.cells #[.string xs[j].1, .slice A' xs[j].2.length c'] 65 (0, 0)) := by rw [hW]; exact heap_alloc_new wr _
          have b0 := blk_cell hbW 0
          have b1 := blk_cell hbW 1
          simp at b0 b1
          have hcall := HC.out.2.1 j hlt A' xs[j].2.length c' W (I.out.fr.trans (hfW.mono fun _ _ f => f.elim))
          have hskip := fun hp w' (f : Fr No W w') => I.out.skip hlt hp (hfW.trans (f.mono fun _ _ f => f.elim))
          have hkeep := fun hp w' (f : Fr No W w') => I.out.keep hlt HC.out.2.2.2.2.2.2 hp (hfW.trans (f.mono fun _ _ f => f.elim)) hbo
          obtain ⟨x, hx⟩ : ∃ x, xs[j] = x := ⟨_, rfl⟩
          simp only [hx] at x0 x1 hW b0 b1 hcall hskip hkeep hbW
          have HL := Lib.hid (And.intro hcall (And.intro hskip (And.intro hkeep (And.intro hfW hb2))))
          clear hcall hskip hkeep hx hbo hcs2 hk2 hbW hfW hb2 hrest
          go_wp2_with fail
          rw [← hW]
          clear hW
          refine HL.out.1.mono ?_
          rintro e2 w2 ⟨rfl, hf2⟩
          have b0 := hf2.cell b0 (fun f => f)
          have b1 := hf2.cell b1 (fun f => f)
          have f02 := HL.out.2.2.2.1.trans (hf2.mono fun _ _ f => f.elim)
          have y0 := f02.cell y0 (fun f => f)
          have y1 := f02.cell y1 (fun f => f)
          have hb2 := f02.blk HL.out.2.2.2.2 (fun f => f)
          have z0 := blk_frozen hb2 (i * 2)
          have z1 := blk_frozen hb2 (i * 2 + 1)
          have HF := Lib.hid hf2
          clear hf2 f02 hb2
          cases hp : p x.1 with
          | true =>
            go_wp2_with fail
            go_roundw
            case rel => exact ⟨i, j + 1, by omega, rfl, by go_num, HL.out.2.1 hp _ HF.out⟩
            case measure => simp [intOf]; omega
          | false =>
            go_wp2_with fail
            go_roundw
            case rel => exact ⟨i + 1, j + 1, by omega, by go_num, by go_num, HL.out.2.2.1 hp _ HF.out⟩
            case measure => simp [intOf]; omega
        · obtain rfl : j = xs.length := by omega
          obtain ⟨cur3, hb3, hs3, hfin⟩ := I.out.ow HC.out.2.2.2.2.1 HC.out.2.2.2.1 HC.out.2.2.2.2.2.2
          have hn := HC.out.2.2.2.2.2.2
          have hcut := fun W => cut_lo_at (P := Try.prog) 62 65 2 .i64 Try.underlying62 (by kernel_rfl) g xs.length c i (by omega) hn (by omega) W
          have hcut2 := fun W => cut_hi_at (P := Try.prog) 62 65 2 .i64 Try.underlying62 (by kernel_rfl) (some ⟨g, 0, none⟩) xs.length c i (by omega) hn W
          obtain ⟨w9, hclr, hf9, cur9, hb9, hs9, ht9⟩ := run_clear_items hb3 hs3 hij hn 0
          obtain ⟨hnn, hoo, hff⟩ := hfin w9 cur9 hf9 hb9 hs9 ht9
          have HZ := Lib.hid (And.intro hnn (And.intro hoo hff))
          have hclr2 : ∀ ty, (Builtin.clear_ #[62] ty #[.slice (some ⟨g, i * 2, none⟩) (xs.length - i) (c - i)]).run Try.prog wr = .ok (.tuple #[]) w9 := fun ty => hclr
          clear hfin hf9 hb9 hs9 ht9 hnn hoo hff hb3 hs3 hclr
          go_wp2_with fail
          go_ret
          exact ⟨i, rfl, HZ.out.2.1, HC.out.2.2.2.2.2.1.mono (fun _ _ f => f.elim) |>.trans (HZ.out.2.2.mono fun k _ e => .inl (by rw [e]; rfl))⟩
end Go.Proofs.Ytkcppngopdiljaa
