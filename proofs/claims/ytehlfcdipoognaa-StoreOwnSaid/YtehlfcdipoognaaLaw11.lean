/- Laws of layer 13 (store): StoreOwn. -/
import Derived.Test.YtehlfcdipoognaaLaw8
import Derived.Test.YtehlfcdipoognaaStore3o
set_option linter.unusedVariables false
set_option linter.unusedSimpArgs false
namespace Go.Proofs.Ytehlfcdipoognaa
open Go.RowKit

def kK : ByteArray := ⟨#[107]⟩
def ownWr (p : Bs) : List Wr := [⟨kK, p, false⟩]
def ownSto (p : Bs) : Sto := ⟨[(kK, ⟨[⟨1, p, false⟩], 1⟩)], 1⟩
theorem own_right {p : Bs} (h : p.length ≤ 40) : right 1 (ownWr p) = true := by
  unfold right ownWr allFit allFit fits
  rw [kl_eq, show kK.size = 1 from rfl]
  simp [kK, toList_data]
  omega
theorem own_apply {p : Bs} (h : p.length ≤ 40) : Sto.empty.apply 1 (ownWr p) = (ownSto p, 0) := by
  unfold Sto.apply
  rw [own_right h, if_neg (by simp)]
  exact if_pos rfl
theorem own_look (p : Bs) : look kK (ownSto p).kc = some ⟨[⟨1, p, false⟩], 1⟩ := by simp [ownSto, look]
theorem own_get (p : Bs) : (ownSto p).get 1 kK = some p := by rw [sto_get_some (own_look p)]; rfl
theorem own_small {p : Bs} (h : p.length ≤ 40) : Sto.Small (ownSto p) 64 := empty_small.applied (l := ownWr p) List.Pairwise.nil (own_right h)
theorem own_scan (p : Bs) : (ownSto p).scan 1 ⟨#[]⟩ ⟨#[]⟩ 5 = [(kK, p)] := by
  have hg : (⟨[⟨1, p, false⟩], 1⟩ : Chn).get 1 = some p := rfl
  have hk : kl kK ⟨#[]⟩ = false := by rw [kl_eq]; simp [toList_data]
  have : (ownSto p).all 1 ⟨#[]⟩ ⟨#[]⟩ = [(kK, p)] := by
    rw [all_eq]
    show [(kK, _)].filterMap _ = _
    have : allF 1 ⟨#[]⟩ ⟨#[]⟩ (kK, ⟨[⟨1, p, false⟩], 1⟩) = some (kK, p) := by
      unfold allF
      simp only [hg]
      exact if_pos ⟨hk, .inl rfl⟩
    rw [List.filterMap_cons, this]; rfl
  unfold Sto.scan
  rw [this]; rfl

/-- What stands in a loop that writes bytes over. -/
structure OwnI (w wr : World) (FS FR : Nat → Prop) (sb gb : Nat) (ob : Obj) (s1 : Sto) (A : Option Addr) (n c : Nat) : Prop where
  row : ∃ xs : Bs, xs.length = n ∧ Ow Ty.u8 5 wr FR (.slice A n c) xs
  sto : StoreAt wr FS sb s1
  fr : Fr No w wr
  hold : wr.heap[gb]? = some ob
  dis : ∀ i, FR i → ¬ FS i ∧ w.heap.size ≤ i ∧ i ≠ gb
theorem OwnI.step {w wr : World} {FS FR : Nat → Prop} {sb gb : Nat} {ob : Obj} {s1 : Sto} {A : Option Addr} {n c i : Nat} (I : OwnI w wr FS FR sb gb ob s1 A n c) (hi : i < n) :
    ∃ g, A = some ⟨g, 0, none⟩ ∧ (∃ u, wr.cell? ⟨g, i, none⟩ = some u) ∧ wr.frozen? ⟨g, i, none⟩ = false ∧ ∀ b : UInt8, OwnI w (wr.setCell ⟨g, i, none⟩ (.int .u8 (b.toNat : Int))) FS FR sb gb ob s1 A n c := by
  obtain ⟨⟨xs, h1, h2⟩, h3, h4, h5, h6⟩ := I
  obtain ⟨g, e, hg, hlt, hc, hz, hst⟩ := ow_u8 h2 (i := i) (by omega)
  have hd := h6 g hg
  refine ⟨g, e, hc, hz, fun b => ⟨⟨xs.set i b, by rw [List.length_set]; exact h1, hst b⟩, ?_, h4.set _ (.inr hd.2.1) _, blk_far h5 (p := ⟨g, i, none⟩) (fun e => hd.2.2 e.symm) _, h6⟩⟩
  have hfr : Fr (fun k => k = g) wr (wr.setCell ⟨g, i, none⟩ (.int .u8 (b.toNat : Int))) := (Fr.refl (fun k => k = g) wr).set ⟨g, i, none⟩ (.inl rfl) _
  exact h3.fr hfr fun k hk e => hd.1 (by rw [← e]; exact hk)

/-- The one item's cells, and its row. -/
theorem own_item {w : World} {F : Nat → Prop} {A : Option Addr} {c : Nat} {k : ByteArray} {p : Bs} (h : Ow tItemO 57 w F (.slice A 1 c) [(k, p)]) :
    ∃ g A9 c9, A = some ⟨g, 0, none⟩ ∧ (∀ w' : World, w'.heap[g]? = w.heap[g]? → w'.cell? ⟨g, 0, none⟩ = some (.string k) ∧ w'.cell? ⟨g, 1, none⟩ = some (.slice A9 p.length c9)) ∧ g < w.heap.size ∧ Ow Ty.u8 5 w (fun i => F i ∧ i ≠ g) (.slice A9 p.length c9) p := by
  obtain ⟨cs, h1, h2, h3⟩ := h
  obtain ⟨x, d, rfl, hx, hd⟩ := h2
  obtain rfl : d = [] := hd
  obtain ⟨A9, c9, rfl, ho⟩ := tItemO_open hx
  rcases h1.2 with ⟨h4, h5⟩ | ⟨g, cap, cur, h4, hb, hg, r⟩
  · cases h5
  · injection h4 with h5 h6 h7
    subst h5
    subst h7
    refine ⟨g, A9, c9, rfl, fun w' hw => ⟨(World.cell?_of_block (a := ⟨g, 0, none⟩) hw).trans ?_, (World.cell?_of_block (a := ⟨g, 1, none⟩) hw).trans ?_⟩, blk_lt hg, ho.mono fun i hi _ => ⟨hi.1, fun e => hi.2 (by rw [e]; rfl)⟩⟩
    · exact h1.cellAt 0 (by show 0 < 1 * 2; omega)
    · exact h1.cellAt 1 (by show 1 < 1 * 2; omega)

set_option maxHeartbeats 4000000 in
set_option maxRecDepth 100000 in
theorem law_own_ok {w : World} {G : Nat → Prop} {E : Option Addr} {e1 : Nat} {p : Bs} (q : UInt8) (h : Rd Ty.u8 w G E p) (hp : p.length ≤ 40) :
    Calls Try.prog 5 #[.slice E p.length e1, .int .u8 (q.toNat : Int)] w fun e w' => e = .returned (.bool true) ∧ Fr No w w' := by
  have hpi : (p.length : Int) ≤ 40 := by omega
  have H := Lib.hid (h.mono fun i hi hl => (⟨hi, hl⟩ : G i ∧ i < w.heap.size))
  clear h
  go_enter Try.func5, Try.ntmps5
  go_wp2_with fail
  refine (law_one w).mono ?_
  rintro e1 w1 ⟨rfl, hf1⟩
  have HF1 := Lib.hid hf1
  clear hf1
  go_wp2_with fail
  refine (store_new w1).mono ?_
  rintro e2 w2 ⟨sb, rfl, hs2, hf2⟩
  have HS2 := Lib.hid (And.intro (hs2.mono fun i hi hl => (⟨hi, hl⟩ : w1.heap.size ≤ i ∧ i < w2.heap.size)) (And.intro hf2 (HF1.out.trans (hf2.mono fun _ _ f => f.elim))))
  clear hs2 hf2
  go_wp2_with fail
  have hj := ref_join (w := w2) (c := e1) (d := 0) (H.out.fr0 HS2.out.2.2) (Rd.nil (t := Ty.u8) (w := w2) (F := fun i => G i ∧ i < w.heap.size) (A := none)) (by simp; omega)
  simp only [List.append_nil, List.length_nil] at hj
  refine hj.mono ?_
  rintro e3 w3 ⟨A3, c3, rfl, ho3, hf3⟩
  obtain ⟨W, hW⟩ : ∃ W, W = w3.alloc (.cells #[.string kK, .slice A3 p.length c3, .bool false] 53) := ⟨_, rfl⟩
  have hfW : Fr No w3 W := by rw [hW]; exact (Fr.refl No w3).alloc _
  have hsW : W.heap.size = w3.heap.size + 1 := by rw [hW]; simp
  have hbW : W.heap[w3.heap.size]? = some (.cells #[.string kK, .slice A3 p.length c3, .bool false] 53 (0, 0)) := by rw [hW]; exact heap_alloc_new w3 _
  have hz3 := hf3.size
  have how : Ow Ty.u8 5 W (fun i => w2.heap.size ≤ i ∧ i < w3.heap.size) (.slice A3 p.length c3) p := (ho3.mono fun i hi hl => ⟨hi, hl⟩).fr0 hfW
  have hRd : Rd tWr W (fun i => w2.heap.size ≤ i ∧ i < W.heap.size) (some ⟨w3.heap.size, 0, none⟩) (ownWr p) :=
    Rd.block hbW ⟨hz3, by omega⟩ (Row.single (tWr_mk (A := A3) (c := c3) (r := p) ho3.rd.2.1 (how.rd.2.2.mono fun i hi _ => ⟨hi.1, by have := hi.2; omega⟩))) (by simp [ownWr])
  have hap := store_apply (w := W) (c := 1) 1 ((HS2.out.1.fr0 hf3).fr0 hfW) empty_small (by omega) hRd (fun i hi h => by have := hi.1; have := h.2; omega) (by simp [ownWr]) (fun x hx => by
    obtain rfl : x = _ := by simpa [ownWr] using hx
    rw [show kK.size = 1 from rfl]; omega)
  rw [own_apply hp] at hap
  have HW3 := Lib.hid (show w2.heap.size ≤ w3.heap.size from hz3)
  have HA := Lib.hid (And.intro hap (And.intro how (And.intro hbW (And.intro hz3 (And.intro hsW ((HS2.out.2.2.trans (hf3.mono fun _ _ f => f.elim)).trans (hfW.mono fun _ _ f => f.elim)))))))
  clear hap how hRd hbW hfW ho3 hf3 hz3 hj hsW
  go_wp2_with fail
  change Calls _ _ _ (w3.alloc (.cells #[.string kK, .slice A3 p.length c3, .bool false] 53)) _
  rw [← hW]
  clear hW
  refine HA.out.1.mono ?_
  rintro e5 w5 ⟨rfl, hs5, hf5⟩
  have hI : OwnI w w5 (fun i => ((w1.heap.size ≤ i ∧ i < w2.heap.size) ∨ W.heap.size ≤ i) ∧ i < w5.heap.size) (fun i => w2.heap.size ≤ i ∧ i < w3.heap.size) sb w3.heap.size (.cells #[.string kK, .slice A3 p.length c3, .bool false] 53 (0, 0)) (ownSto p) A3 p.length c3 :=
    ⟨⟨p, rfl, HA.out.2.1.fr hf5 fun i hi h => by have := hi.1; have := h.2; omega⟩, hs5.mono fun i hi hl => ⟨hi, hl⟩, HA.out.2.2.2.2.2.trans (hf5.mono fun i _ h => .inr (by have := h.1; have := HF1.out.size; omega)), hf5.blk HA.out.2.2.1 (fun h => by have := h.2; have := HA.out.2.2.2.1; omega), fun i hi => ⟨fun h => by
      have h1 := hi.1; have h2 := hi.2; have h3 := HA.out.2.2.2.2.1
      rcases h.1 with h | h
      · have := h.2; omega
      · omega, by have := hi.1; have := HS2.out.2.2.size; omega, by have := hi.2; omega⟩⟩
  have hFl : ∀ i, ((w1.heap.size ≤ i ∧ i < w2.heap.size) ∨ W.heap.size ≤ i) ∧ i < w5.heap.size → i < w5.heap.size ∧ i ≠ w3.heap.size := fun i hi => ⟨hi.2, fun e => by
    have h1 := HA.out.2.2.2.1; have h2 := HA.out.2.2.2.2.1
    rcases hi.1 with h | h
    · have := h.2; omega
    · omega⟩
  obtain ⟨FS, hFS⟩ : ∃ FS : Nat → Prop, (fun i => ((w1.heap.size ≤ i ∧ i < w2.heap.size) ∨ W.heap.size ≤ i) ∧ i < w5.heap.size) = FS := ⟨_, rfl⟩
  have hFl2 : ∀ i, FS i → i < w5.heap.size ∧ i ≠ w3.heap.size := by rw [← hFS]; exact hFl
  rw [hFS] at hI
  have hz35 : w3.heap.size < w5.heap.size := blk_lt hI.hold
  have hz05 := hI.fr.size
  have HI := Lib.hid hI
  have HF := Lib.hid (And.intro hFl2 (And.intro hz35 hz05))
  clear hI hs5 hf5 hFl hFS hFl2 hz35 hz05 HA
  go_wp2_with fail
  go_loopw [7] (fun v wr => ∃ k : Nat, k ≤ p.length ∧ v = .int .i64 k ∧ Hid (OwnI w wr FS (fun i => w2.heap.size ≤ i ∧ i < w3.heap.size) sb w3.heap.size (.cells #[.string kK, .slice A3 p.length c3, .bool false] 53 (0, 0)) (ownSto p) A3 p.length c3 ∧ w5.heap.size ≤ wr.heap.size)) (fun v _ => p.length - (intOf v).toNat)
  case atStart => exact ⟨0, Nat.zero_le _, rfl, HI.out, Nat.le_refl _⟩
  case round =>
    obtain ⟨k, hk, rfl, I⟩ := hrel
    have hk0 : (0 : Int) ≤ (k : Int) := Int.natCast_nonneg _
    have b0 := blk_cell I.out.1.hold 0
    have b1 := blk_cell I.out.1.hold 1
    have z0 := blk_frozen I.out.1.hold 0
    simp at b0 b1
    by_cases hlt : k < p.length
    · have hk1 : (k : Int) < (p.length : Int) := by omega
      obtain ⟨g, rfl, ⟨u, hu⟩, hz, hst⟩ := I.out.1.step hlt
      have HST := Lib.hid (And.intro (hst q) (show w5.heap.size ≤ (wr.setCell ⟨g, k, none⟩ (.int .u8 (q.toNat : Int))).heap.size by have := I.out.2; simpa [World.setCell] using this))
      clear hst
      go_wp2_with fail
      go_roundw
      case rel => exact ⟨k + 1, by omega, by go_num, HST.out⟩
      case measure => simp [intOf]; omega
    · obtain rfl : k = p.length := by omega
      obtain ⟨W6, hW6⟩ : ∃ W6, W6 = wr.setCell ⟨w3.heap.size, 0, none⟩ (.string ⟨#[122]⟩) := ⟨_, rfl⟩
      have hfr6 : Fr (fun i => i = w3.heap.size) wr W6 := by rw [hW6]; exact (Fr.refl (fun i => i = w3.heap.size) wr).set ⟨w3.heap.size, 0, none⟩ (.inl rfl) _
      have hS6 : StoreAt W6 FS sb (ownSto p) := I.out.1.sto.fr hfr6 fun i hi e => (HF.out.1 i hi).2 e
      have hF6 : Fr No w W6 := I.out.1.fr.trans (hfr6.mono fun i _ e => .inr (by have h1 := HF.out.2.1; have := HS2.out.2.2.size; have := HW3.out; omega))
      have hb6 : W6.heap[w3.heap.size]? = some (.cells #[.string ⟨#[122]⟩, .slice A3 p.length c3, .bool false] 53 (0, 0)) := by rw [hW6]; simpa using blk_set I.out.1.hold 0 (.string ⟨#[122]⟩)
      have hget := store_get hS6 (own_small hp) (by omega) 1 kK
      rw [own_get] at hget
      have hz6 := hfr6.size
      have H6 := Lib.hid (And.intro hget (And.intro hS6 (And.intro hF6 (And.intro hb6 (show w5.heap.size ≤ W6.heap.size by have := I.out.2; omega)))))
      clear hfr6 hS6 hF6 hb6 hget hz6
      go_wp2_with fail
      change Calls _ _ #[_, _, .string kK] (wr.setCell ⟨w3.heap.size, 0, none⟩ (.string ⟨#[122]⟩)) _
      rw [← hW6]
      clear hW6
      refine H6.out.1.mono ?_
      rintro e7 w7 ⟨⟨A7, c7, rfl, ho7⟩, hf7⟩
      have hI2 : OwnI w w7 FS (fun i => W6.heap.size ≤ i) sb w3.heap.size (.cells #[.string ⟨#[122]⟩, .slice A3 p.length c3, .bool false] 53 (0, 0)) (ownSto p) A7 p.length c7 :=
        ⟨⟨p, rfl, ho7⟩, H6.out.2.1.fr0 hf7, H6.out.2.2.1.trans (hf7.mono fun _ _ f => f.elim), hf7.blk H6.out.2.2.2.1 (fun f => f), fun i hi => by
          have hi' : W6.heap.size ≤ i := hi
          have h1 := H6.out.2.2.2.2; have h2 := HF.out.2.1; have h3 := HF.out.2.2
          exact ⟨fun h => by have := (HF.out.1 i h).1; omega, by omega, by omega⟩⟩
      have HI2 := Lib.hid hI2
      have hz57 : w5.heap.size ≤ w7.heap.size := Nat.le_trans H6.out.2.2.2.2 hf7.size
      clear hI2 ho7 hf7 b0 b1 z0
      go_wp2_with fail
      go_loopw [10] (fun v wr => ∃ k : Nat, k ≤ p.length ∧ v = .int .i64 k ∧ Hid (OwnI w wr FS (fun i => W6.heap.size ≤ i) sb w3.heap.size (.cells #[.string ⟨#[122]⟩, .slice A3 p.length c3, .bool false] 53 (0, 0)) (ownSto p) A7 p.length c7 ∧ w5.heap.size ≤ wr.heap.size)) (fun v _ => p.length - (intOf v).toNat)
      case atStart => exact ⟨0, Nat.zero_le _, rfl, HI2.out, hz57⟩
      case round =>
        obtain ⟨k, hk, rfl, I⟩ := hrel
        have hk0 : (0 : Int) ≤ (k : Int) := Int.natCast_nonneg _
        by_cases hlt : k < p.length
        · have hk1 : (k : Int) < (p.length : Int) := by omega
          obtain ⟨g, rfl, ⟨u, hu⟩, hz, hst⟩ := I.out.1.step hlt
          obtain ⟨wq, hwq⟩ : ∃ wq, wq = wr := ⟨_, rfl⟩
          subst hwq
          have HST := Lib.hid (And.intro (hst q) (show w5.heap.size ≤ (wq.setCell ⟨g, k, none⟩ (.int .u8 (q.toNat : Int))).heap.size by have := I.out.2; simpa [World.setCell] using this))
          clear hst
          go_wp2_with fail
          go_roundw
          case rel => exact ⟨k + 1, by omega, by go_num, HST.out⟩
          case measure => simp [intOf]; omega
        · obtain rfl : k = p.length := by omega
          obtain ⟨wq, hwq⟩ : ∃ wq, wq = wr := ⟨_, rfl⟩
          subst hwq
          have hscan := store_scan_own I.out.1.sto (own_small hp) (by omega) 1 ⟨#[]⟩ ⟨#[]⟩ 5
          rw [own_scan] at hscan
          have H8 := Lib.hid hscan
          clear hscan
          go_wp2_with fail
          refine H8.out.mono ?_
          rintro e8 w8 ⟨A8, c8, rfl, ho8, hf8⟩
          obtain ⟨g8, A9, c9, rfl, hb8, hg8, ho9⟩ := own_item ho8
          have hn9 : ∀ i, wq.heap.size ≤ i ∧ i ≠ g8 → ¬ FS i ∧ w.heap.size ≤ i ∧ i ≠ g8 := fun i hi => by
            have h1 := I.out.2; have h3 := HF.out.2.2
            exact ⟨fun h => by have := (HF.out.1 i h).1; have := hi.1; omega, by have := hi.1; omega, hi.2⟩
          obtain ⟨ob8, hob8⟩ : ∃ ob, w8.heap[g8]? = some ob := ⟨_, Array.getElem?_eq_getElem hg8⟩
          have hI3 : OwnI w w8 FS (fun i => wq.heap.size ≤ i ∧ i ≠ g8) sb g8 ob8 (ownSto p) A9 p.length c9 :=
            ⟨⟨p, rfl, ho9⟩, I.out.1.sto.fr0 hf8, I.out.1.fr.trans (hf8.mono fun _ _ f => f.elim), hob8, hn9⟩
          have HI3 := Lib.hid (And.intro hI3 (And.intro hb8 hob8))
          clear hI3 hb8 hob8 hg8 ho9 ho8 hf8 hn9
          go_wp2_with fail
          go_loopw [12] (fun v wr => ∃ k : Nat, k ≤ p.length ∧ v = .int .i64 k ∧ Hid (OwnI w wr FS (fun i => wq.heap.size ≤ i ∧ i ≠ g8) sb g8 ob8 (ownSto p) A9 p.length c9)) (fun v _ => p.length - (intOf v).toNat)
          case atStart => exact ⟨0, Nat.zero_le _, rfl, HI3.out.1⟩
          case round =>
            obtain ⟨k, hk, rfl, I⟩ := hrel
            have hk0 : (0 : Int) ≤ (k : Int) := Int.natCast_nonneg _
            obtain ⟨b0, b1⟩ := HI3.out.2.1 wr (I.out.hold.trans HI3.out.2.2.symm)
            by_cases hlt : k < p.length
            · have hk1 : (k : Int) < (p.length : Int) := by omega
              obtain ⟨g, rfl, ⟨u, hu⟩, hz, hst⟩ := I.out.step hlt
              have HST := Lib.hid (hst q)
              clear hst
              go_wp2_with fail
              go_roundw
              case rel => exact ⟨k + 1, by omega, by go_num, HST.out⟩
              case measure => simp [intOf]; omega
            · obtain rfl : k = p.length := by omega
              obtain ⟨wz, hwz⟩ : ∃ wz, wz = wr := ⟨_, rfl⟩
              subst hwz
              have hget := store_get I.out.sto (own_small hp) (by omega) 1 kK
              rw [own_get] at hget
              have H9 := Lib.hid hget
              clear hget
              go_wp2_with fail
              change Calls _ _ #[_, _, .string kK] _ _
              refine H9.out.mono ?_
              rintro e9 w9 ⟨⟨A10, c10, rfl, ho10⟩, hf10⟩
              have hF9 : Fr No w w9 := I.out.fr.trans (hf10.mono fun _ _ f => f.elim)
              have hby := ref_bytes_q (c := c10) (d := e1) ho10.rd.2.2 (H.out.fr0 hF9)
              have H10 := Lib.hid (And.intro hby hF9)
              clear hby hF9 ho10 hf10 b0 b1
              go_wp2_with fail
              refine H10.out.1.mono ?_
              rintro e11 w11 ⟨rfl, m, rfl⟩
              go_wp2_with fail
              go_ret
              exact ⟨by simp, H10.out.2.drewN _⟩

set_option maxHeartbeats 2000000 in
set_option maxRecDepth 100000 in
theorem law_own {w : World} {G : Nat → Prop} {E : Option Addr} {e1 : Nat} {p : Bs} (b : Int) (hb : (Lit.int .u8 b).wf = true) (h : Rd Ty.u8 w G E p) :
    Calls Try.prog 5 #[.slice E p.length e1, .int .u8 b] w fun e w' => e = .returned (.bool true) ∧ Fr No w w' := by
  obtain ⟨q, rfl⟩ := u8_of_wf hb
  have hone := Lib.hid law_one
  have hpi : (p.length : Int) ≤ 9223372036854775807 := by have := h.1; omega
  by_cases hp : p.length ≤ 40
  · exact law_own_ok q h hp
  · · have hp2 : 40 < (p.length : Int) := by omega
      clear h hb hp
      go_enter Try.func5, Try.ntmps5
      go_wp2_with fail
      refine (hone.out w).mono ?_
      rintro e1 w1 ⟨rfl, hf1⟩
      have HF1 := Lib.hid (hf1)
      clear hf1
      go_wp2_with fail
      refine (hone.out w1).mono ?_
      rintro e2 w2 ⟨rfl, hf2⟩
      have HF2 := Lib.hid (HF1.out.trans (hf2.mono fun _ _ f => f.elim))
      clear hf2
      go_wp2_with fail
      go_ret
      exact ⟨rfl, HF2.out⟩
end Go.Proofs.Ytehlfcdipoognaa
