/- Reference 5: Tables, of any forms: the walk (printed by ex.py out of t15in). -/
import Derived.Test.YtlmhphejgahfbaaGreatDoorMrowledgerdeletes10
set_option linter.unusedVariables false
set_option linter.unusedSimpArgs false
namespace Go.Proofs.YtlmhphejgahfbaaGreatDoor
open Go.RowKit

set_option maxHeartbeats 8000000 in
set_option maxRecDepth 100000 in
theorem tables_some {w : World} {R : Nat → Prop} {A : Option Addr} {c n : Nat} {l : List Frm} (h : Rd tFrm w R A l) (hn : n = l.length) (h1 : 1 ≤ l.length) (h5 : l.length ≤ 5) (h9 : ∀ f ∈ l, f.1.length ≤ 9) :
    Calls Tryz.prog 9 #[.slice A n c] w fun e w' => ∃ Ao co, e = .returned (.slice Ao (min 4 l.length) co) ∧ Ow tTab 54 w' (fun i => w.heap.size ≤ i) (.slice Ao (min 4 l.length) co) (tabsF l) ∧ Fr No w w' := by
  obtain ⟨N, hN⟩ : ∃ N, min 4 l.length = N := ⟨_, rfl⟩
  have hn5 : (n : Int) ≤ 5 := by omega
  have hn1 : (1 : Int) ≤ (n : Int) := by omega
  have hN4 : (N : Int) ≤ 4 := by omega
  have hN1 : 1 ≤ N := by omega
  have hNn : (N : Int) ≤ (n : Int) := by omega
  have htl := tabsF_len l
  rw [show max 1 (min 4 l.length) = N by omega] at htl
  rw [hN]
  have H := Lib.hid (And.intro h (And.intro hn (And.intro h1 (And.intro h9 (And.intro hN htl)))))
  clear h hn h1 h5 h9 hN htl
  go_enter Tryz.func9, Tryz.ntmps9
  go_wp2_with fail
  go_loopw [3, 4] (fun ov iv wr => ∃ (k : Nat) (Ao : Option Addr) (co : Nat), k ≤ N ∧ iv = .int .i64 (k : Int) ∧ ov = .slice Ao k co ∧ Hid (Ow tTab 54 wr (fun i => w.heap.size ≤ i) (.slice Ao k co) ((tabsF l).take k) ∧ Fr No w wr)) (fun _ iv _ => N - (intOf iv).toNat)
  case atStart => exact ⟨0, none, 0, Nat.zero_le _, rfl, rfl, Ow.nil, Fr.refl No w⟩
  case round =>
    obtain ⟨i, Ao, co, hi, rfl, rfl, I⟩ := hrel
    obtain ⟨w0, hw0⟩ : ∃ w0, w0 = wr := ⟨_, rfl⟩
    rw [← hw0] at I ⊢
    clear hw0 wr
    have hi0 : (0 : Int) ≤ (i : Int) := Int.natCast_nonneg _
    by_cases hlt : i < N
    · have hi4 : (i : Int) < 4 := by omega
      have hin : (i : Int) < (n : Int) := by omega
      have hil : i < l.length := by have := H.out.2.2.2.2.1; omega
      obtain ⟨ad, RR, cc, rfl, x0, x1, hcc, hrr⟩ := frm_at (H.out.1.fr0 I.out.2) hil
      have hf9 := H.out.2.2.2.1 l[i] (List.getElem_mem hil)
      have htab := tabsF_get hil (show i < 4 by omega)
      obtain ⟨f, hf⟩ : ∃ f, l[i] = f := ⟨_, rfl⟩
      rw [hf] at x0 x1 hcc hrr hf9 htab
      obtain ⟨m, hm⟩ : ∃ m, f.1.length = m := ⟨_, rfl⟩
      rw [hm] at x0 hcc hf9
      have hm9 : (m : Int) ≤ 9 := by omega
      have hm0 : (0 : Int) ≤ (m : Int) := Int.natCast_nonneg _
      have x0' := cell_alloc x0 (.cells #[.slice none 0 0, .int .u8 0] 89)
      have x1' := cell_alloc x1 (.cells #[.slice none 0 0, .int .u8 0] 89)
      have hb48 : (48 : Int) + (i : Int) = ((UInt8.ofNat (48 + i)).toNat : Int) := by rw [UInt8.toNat_ofNat']; omega
      have hconv := run_two_at ((w0.alloc (.cells #[.slice RR m cc, .int .u8 (f.2.toNat : Int)] 89)).alloc (.cells #[.int .u8 116, .int .u8 (48 + (i : Int))] 5)) (w0.heap.size + 1) 116 (UInt8.ofNat (48 + i)) (x := 116) (y := 48 + (i : Int)) rfl hb48 (blk_two2 _ _ _)
      obtain ⟨nm, hnm⟩ : ∃ nm, two 116 (UInt8.ofNat (48 + i)) = nm := ⟨_, rfl⟩
      rw [hnm] at hconv
      have HN := Lib.hid (And.intro hnm (And.intro hf (And.intro hm (And.intro hrr (And.intro htab hil)))))
      clear hb48 hnm hf hm hrr htab
      go_wp2_with fail
      obtain ⟨W, hW⟩ : ∃ W, W = (((w0.alloc (.cells #[.slice RR m cc, .int .u8 (f.2.toNat : Int)] 89)).alloc (.cells #[.int .u8 116, .int .u8 (48 + (i : Int))] 5)).alloc (.cells #[.string (one 97), .int .u8 1, .bool false] 91)).alloc (.cells #[.string nm, .slice (some ⟨w0.heap.size + 1 + 1, 0, none⟩) 1 1, .int .i64 1] 54) := ⟨_, rfl⟩
      have hCI : ColI f m RR cc nm w0 W 0 (.slice (some ⟨w0.heap.size + 1 + 1, 0, none⟩) 1 1) 1 := by rw [hW]; exact colI_start
      have HI0 := Lib.hid hCI
      clear hCI hconv
      rw [show (⟨#[97]⟩ : ByteArray) = one 97 from rfl]
      rw [← hW]
      clear hW x0' x1'
      have hwd : wideF f ≤ 8 ∧ wideF f ≤ m ∧ (wideF f = m ∨ (wideF f = 8 ∧ m = 9)) := by have := HN.out.2.2.1; unfold wideF; omega
      have hks := keysF_eq f
      obtain ⟨wd, hwde⟩ : ∃ wd, wideF f = wd := ⟨_, rfl⟩
      obtain ⟨ks, hkse⟩ : ∃ ks, keysF f = ks := ⟨_, rfl⟩
      rw [hwde] at hwd
      rw [hwde, hkse] at hks
      have HD := Lib.hid (And.intro hwd (And.intro hks (And.intro hwde hkse)))
      clear hwd hks hwde hkse
      go_loopw [7] (fun kv wr => ∃ (k : Nat) (v : Value), k ≤ wd ∧ kv = .int .i64 (k : Int) ∧ Hid (ColI f m RR cc nm w0 wr k v 1)) (fun kv _ => wd - (intOf kv).toNat)
      case atStart => exact ⟨0, _, Nat.zero_le _, rfl, HI0⟩
      case round =>
        obtain ⟨k, v, hk, rfl, J⟩ := hrel
        obtain ⟨w3, hw3⟩ : ∃ w3, w3 = wr := ⟨_, rfl⟩
        rw [← hw3] at J ⊢
        clear hw3 wr HI0
        have hk0 : (0 : Int) ≤ (k : Int) := Int.natCast_nonneg _
        have f0 := blk_cell J.out.form 0
        have f1 := blk_cell J.out.form 1
        have t0 := blk_cell J.out.tab 0
        have t1 := blk_cell J.out.tab 1
        have t2 := blk_cell J.out.tab 2
        have z1 := blk_frozen J.out.tab 1
        have z2 := blk_frozen J.out.tab 2
        simp at f0 f1 t0 t1 t2
        by_cases hltk : k < wd
        · have hkm : (k : Int) < (m : Int) := by have := HD.out.1; omega
          have hk8 : (k : Int) < 8 := by have := HD.out.1; omega
          have hkf : k < f.1.length := by have := HN.out.2.2.1; omega
          obtain ⟨adr, rfl, y0⟩ := u8_atF (HN.out.2.2.2.1.fr0 J.out.fr) hkf
          obtain ⟨B, hB⟩ : ∃ B, f.1[k] = B := ⟨_, rfl⟩
          rw [hB] at y0
          have hB256 : (B.toNat : Int) < 256 := by have := B.toNat_lt; omega
          have hB0 : (0 : Int) ≤ (B.toNat : Int) := Int.natCast_nonneg _
          obtain ⟨KB, hKB⟩ : ∃ KB : UInt8, 1 + B % 2 = KB := ⟨_, rfl⟩
          have hwm : IntKind.u8.wrap (1 + (B.toNat : Int).tmod 2) = (KB.toNat : Int) := by rw [Int.tmod_eq_emod_of_nonneg (by omega), IntWalk.u8_in _ (by omega), kind_toNat, hKB]
          have hsucc := colsN_succ f 0 k
          rw [show f.1.getD k 0 = B by rw [List.getD_eq_getElem?_getD, List.getElem?_eq_getElem hkf, hB]; rfl, hKB] at hsucc
          have HB := Lib.hid (And.intro hB hsucc)
          clear hB hKB hsucc
          have h97 : (97 : Int) + (k : Int) = ((UInt8.ofNat (97 + k)).toNat : Int) := by rw [UInt8.toNat_ofNat']; omega
          have HO7 := Lib.hid h97
          have hw97 : IntKind.i64.wrap (97 + (k : Int)) = 97 + (k : Int) := IntWalk.i64_in _ (by omega)
          have hw97b : IntKind.u8.wrap (97 + (k : Int)) = 97 + (k : Int) := IntWalk.u8_in _ (by omega)
          clear h97
          by_cases hkz : k = 0
          · have hk00 : ((k : Int) == 0) = true := by simp [hkz]
            have HZ := Lib.hid hkz
            clear hkz
            obtain ⟨w4, hw4⟩ : ∃ w4, w4 = w3.setCell ⟨w0.heap.size + 1 + 1 + 1, 1, none⟩ (.slice none 0 0) := ⟨_, rfl⟩
            have hf34 : Fr (fun i => i = w0.heap.size + 3) w3 w4 := by rw [hw4]; exact (Fr.refl (fun i => i = w0.heap.size + 3) w3).set ⟨w0.heap.size + 1 + 1 + 1, 1, none⟩ (.inl rfl) _
            have hf04 : Fr No w0 w4 := J.out.fr.next hf34 (fun i hi e => by omega)
            have form4 := hf34.blk J.out.form (fun e => by omega)
            have tab4 : w4.heap[w0.heap.size + 1 + 1 + 1]? = some (.cells #[.string nm, .slice none 0 0, .int .i64 1] 54 (0, 0)) := by rw [hw4]; exact blk_set J.out.tab 1 _
            have sz4 : w0.heap.size + 4 ≤ w4.heap.size := Nat.le_trans J.out.sz hf34.size
            have hO4 : Ow tCol 91 w4 (fun b => w0.heap.size + 4 ≤ b) (.slice none 0 0) (colsN f 0 0 k) := by rw [HZ.out]; exact Ow.nil
            obtain ⟨adr', hadr, y4⟩ := u8_atF (HN.out.2.2.2.1.fr0 hf04) hkf
            obtain rfl := Option.some.inj hadr
            rw [HB.out.1] at y4
            have HV := Lib.hid (And.intro hf04 (And.intro form4 (And.intro tab4 (And.intro sz4 hO4))))
            clear hf34 hf04 form4 tab4 sz4 hO4 hadr
            have t14 := blk_cell HV.out.2.2.1 1
            have f04 := blk_cell HV.out.2.1 0
            simp at t14 f04
            go_wp2_with fail
            rw [← hw4]
            clear hw4 f0 f1 t0 t1 t2 z1 z2 hk00
            refine wp_region_tail 18 (fun w' => w'.cell? ⟨w0.heap.size + 1 + 1 + 1, 1, none⟩ = some (.slice none 0 0) ∧ w'.cell? ⟨w0.heap.size, 0, none⟩ = some (.slice (some adr) m cc) ∧ w'.cell? (adr.add k) = some (.int .u8 (B.toNat : Int))) (by kernel_rfl) (by exact ⟨t14, f04, y4⟩) (fun hHeld => ?_)
            refine WalkTail.take (i := 0) (v := ?vp0) rfl (by kernel_rfl) (fun _ _ _ h => h) (Or.inl ⟨by rfl, ?hyp0⟩) (by assumption) ?_
            case hyp0 => (intro w hSw; (try dsimp only at hSw); go_simp; try with_reducible rfl)
            (try simp only [Act.put, List.setIfInBounds_toArray, List.set_cons_zero, List.set_cons_succ])
            refine WalkTail.take (i := 1) (v := ?vp1) rfl (by kernel_rfl) (fun _ _ _ h => h) (Or.inl ⟨by rfl, ?hyp1⟩) (by assumption) ?_
            case hyp1 => (intro w hSw; (try dsimp only at hSw); go_simp; try with_reducible rfl)
            (try simp only [Act.put, List.setIfInBounds_toArray, List.set_cons_zero, List.set_cons_succ])
            refine WalkTail.take (i := 2) (v := ?vp2) rfl (by kernel_rfl) (fun _ _ _ h => h) (Or.inl ⟨by rfl, ?hyp2⟩) (by assumption) ?_
            case hyp2 => (intro w hSw; (try dsimp only at hSw); go_simp; try with_reducible rfl)
            (try simp only [Act.put, List.setIfInBounds_toArray, List.set_cons_zero, List.set_cons_succ])
            refine WalkTail.take (i := 3) (v := ?vp3) rfl (by kernel_rfl) (fun _ _ _ h => h) (Or.inl ⟨by rfl, ?hyp3⟩) (by assumption) ?_
            case hyp3 => (intro w hSw; (try dsimp only at hSw); go_simp; try with_reducible rfl)
            (try simp only [Act.put, List.setIfInBounds_toArray, List.set_cons_zero, List.set_cons_succ])
            refine WalkTail.take (i := 4) (v := ?vp4) rfl (by kernel_rfl) (fun _ _ _ h => h) (Or.inl ⟨by rfl, ?hyp4⟩) (by assumption) ?_
            case hyp4 => (intro w hSw; (try dsimp only at hSw); go_simp; try with_reducible rfl)
            (try simp only [Act.put, List.setIfInBounds_toArray, List.set_cons_zero, List.set_cons_succ])
            refine WalkTail.take (i := 7) (v := ?vp7) rfl (by kernel_rfl) (fun _ _ _ h => h) (Or.inl ⟨by rfl, ?hyp7⟩) (by assumption) ?_
            case hyp7 => (intro w hSw; (try dsimp only at hSw); go_simp; try with_reducible rfl)
            (try simp only [Act.put, List.setIfInBounds_toArray, List.set_cons_zero, List.set_cons_succ])
            refine WalkTail.take (i := 8) (v := ?vp8) rfl (by kernel_rfl) (fun _ _ _ h => h) (Or.inl ⟨by rfl, ?hyp8⟩) (by assumption) ?_
            case hyp8 => (intro w hSw; (try dsimp only at hSw); go_simp; try with_reducible rfl)
            (try simp only [Act.put, List.setIfInBounds_toArray, List.set_cons_zero, List.set_cons_succ])
            refine WalkTail.take (i := 9) (v := ?vp9) rfl (by kernel_rfl) (fun _ _ _ h => h) (Or.inl ⟨by rfl, ?hyp9⟩) (by assumption) ?_
            case hyp9 => (intro w hSw; (try dsimp only at hSw); go_simp; try with_reducible rfl)
            (try simp only [Act.put, List.setIfInBounds_toArray, List.set_cons_zero, List.set_cons_succ])
            refine WalkTail.take (i := 10) (v := ?vp10) rfl (by kernel_rfl) (fun _ _ _ h => h) (Or.inl ⟨by rfl, ?hyp10⟩) (by assumption) ?_
            case hyp10 => (intro w hSw; (try dsimp only at hSw); go_simp; try with_reducible rfl)
            (try simp only [Act.put, List.setIfInBounds_toArray, List.set_cons_zero, List.set_cons_succ])
            refine WalkTail.take (i := 11) (v := ?vp11) rfl (by kernel_rfl) (fun _ _ _ h => h) (Or.inl ⟨by rfl, ?hyp11⟩) (by assumption) ?_
            case hyp11 => (intro w hSw; (try dsimp only at hSw); go_simp; try with_reducible rfl)
            (try simp only [Act.put, List.setIfInBounds_toArray, List.set_cons_zero, List.set_cons_succ])
            refine WalkTail.take (i := 12) (v := ?vp12) rfl (by kernel_rfl) (fun _ _ _ h => h) (Or.inl ⟨by rfl, ?hyp12⟩) (by assumption) ?_
            case hyp12 => (intro w hSw; (try dsimp only at hSw); go_simp; try with_reducible rfl)
            (try simp only [Act.put, List.setIfInBounds_toArray, List.set_cons_zero, List.set_cons_succ])
            refine WalkTail.take (i := 13) (v := ?vp13) rfl (by kernel_rfl) (fun _ _ _ h => h) (Or.inl ⟨by rfl, ?hyp13⟩) (by assumption) ?_
            case hyp13 => (intro w hSw; (try dsimp only at hSw); go_simp; try with_reducible rfl)
            (try simp only [Act.put, List.setIfInBounds_toArray, List.set_cons_zero, List.set_cons_succ])
            refine WalkTail.one (i := 5) rfl (by kernel_rfl) (by decide) (fun K hK => ?_)
            go_simp
            refine hK.out _ _ ?_ (fun hHeld => ?_)
            · exact ⟨cell_alloc t14 _, cell_alloc f04 _, cell_alloc y4 _⟩
            clear hK K
            (try simp only [Act.put, List.setIfInBounds_toArray, List.set_cons_zero, List.set_cons_succ])
            refine WalkTail.one (i := 6) rfl (by kernel_rfl) (by decide) (fun K hK => ?_)
            have hone := run_one_b (w4.alloc (.cells #[.int .u8 (97 + (k : Int))] 5)).drew w4.heap.size (UInt8.ofNat (97 + k)) (x := (97 + (k : Int))) (by exact HO7.out) (heap_alloc_new w4 _)
            rw [show one (UInt8.ofNat (97 + k)) = nameF k from rfl] at hone
            go_simp
            refine hK.out _ _ ?_ (fun hHeld => ?_)
            · exact ⟨cell_alloc t14 _, cell_alloc f04 _, cell_alloc y4 _⟩
            clear hK K hone
            (try simp only [Act.put, List.setIfInBounds_toArray, List.set_cons_zero, List.set_cons_succ])
            refine WalkTail.take (i := 14) (v := ?vp14) rfl (by kernel_rfl) (fun _ _ _ h => h) (Or.inl ⟨by rfl, ?hyp14⟩) (by assumption) ?_
            case hyp14 => (intro w hSw; (try dsimp only at hSw); go_simp; try with_reducible rfl)
            (try simp only [Act.put, List.setIfInBounds_toArray, List.set_cons_zero, List.set_cons_succ])
            refine WalkTail.one (i := 15) rfl (by kernel_rfl) (by decide) (fun K hK => ?_)
            go_simp
            refine hK.out _ _ ?_ (fun hHeld => ?_)
            · exact ⟨cell_alloc (cell_alloc t14 _) _, cell_alloc (cell_alloc f04 _) _, cell_alloc (cell_alloc y4 _) _⟩
            clear hK K
            (try simp only [Act.put, List.setIfInBounds_toArray, List.set_cons_zero, List.set_cons_succ])
            refine WalkTail.one (i := 16) rfl (by kernel_rfl) (by decide) (fun K hK => ?_)
            have hAt : At ((w4.alloc (.cells #[.int .u8 (97 + (k : Int))] 5)).alloc (.cells #[.string (nameF k), .int .u8 (KB.toNat : Int), .bool false] 91)).drew (some ⟨w4.heap.size + 1, 0, none⟩) ([(nameF k, KB, false)].flatMap colC) := At.block (w := ((w4.alloc (.cells #[.int .u8 (97 + (k : Int))] 5)).alloc (.cells #[.string (nameF k), .int .u8 (KB.toNat : Int), .bool false] 91)).drew) (cs := #[.string (nameF k), .int .u8 (KB.toNat : Int), .bool false]) (blk_two2 w4 (.cells #[.int .u8 (97 + (k : Int))] 5) (.cells #[.string (nameF k), .int .u8 (KB.toNat : Int), .bool false] 91))
            refine ow_append_step tCol (ys := [(nameF k, KB, false)]) (HV.out.2.2.2.2.fr0 (show Fr No w4 _ by repeat (first | exact Fr.refl No w4 | apply Fr.alloc | apply Fr.drew | apply Fr.drewN))) _ _ (.agg #[.string ⟨#[]⟩, .int .u8 0, .bool false]) 24 rfl rfl Tryz.underlying52 info_col rfl (by decide) (show 0 < 3 by decide) rfl rfl rfl (row_col.2 rfl) hAt (by rw [colsN_len]; simp only [List.length_singleton]; omega) ?_
            intro A8 c8 w8 ho8 hg8 hat8
            simp only [List.length_singleton, colsN_len] at ho8 hat8 ⊢
            rw [← HB.out.2] at ho8
            have hgA : Fr No w4 ((w4.alloc (.cells #[.int .u8 (97 + (k : Int))] 5)).alloc (.cells #[.string (nameF k), .int .u8 (KB.toNat : Int), .bool false] 91)).drew := (((Fr.refl No w4).alloc _).alloc _).drew
            have hf8 : Fr (fun b => w0.heap.size + 4 ≤ b) w4 w8 := (hgA.mono fun _ _ f => f.elim).grown hg8 fun b hb => .inl (HV.out.2.2.2.2.own hb).1
            have hf08 : Fr No w0 w8 := HV.out.1.next hf8 (fun b hb e => by omega)
            have form8 := hf8.blk HV.out.2.1 (fun e => by omega)
            have tab8 := hf8.blk HV.out.2.2.1 (fun e => by omega)
            have t18 := blk_cell tab8 1
            have z18 := blk_frozen tab8 1
            have f08 := blk_cell form8 0
            simp at t18 f08
            obtain ⟨adr', hadr, y8⟩ := u8_atF (HN.out.2.2.2.1.fr0 hf08) hkf
            obtain rfl := Option.some.inj hadr
            rw [HB.out.1] at y8
            have hs8 : w0.heap.size + 4 ≤ w8.heap.size := Nat.le_trans HV.out.2.2.2.1 hf8.size
            have ho8' : Ow tCol 91 w8 (fun b => w0.heap.size + 4 ≤ b) (.slice A8 (k + 1) c8) (colsN f 0 0 (k + 1)) := ho8.mono fun b hb _ => by
              have := hgA.size
              have := HV.out.2.2.2.1
              rcases hb with hb | hb <;> omega
            have H8 := Lib.hid (And.intro ho8' (And.intro hf08 (And.intro form8 (And.intro tab8 hs8))))
            clear ho8 ho8' hg8 hat8 hgA hf8 hf08 form8 tab8 hs8 hadr hAt
            refine hK.out _ _ ?_ (fun hHeld => ?_)
            · exact ⟨t18, f08, y8⟩
            clear hK K
            (try simp only [Act.put, List.setIfInBounds_toArray, List.set_cons_zero, List.set_cons_succ])
            refine WalkTail.take (i := 17) (v := ?vp17) rfl (by kernel_rfl) (fun _ _ _ h => h) (Or.inl ⟨by rfl, ?hyp17⟩) (by assumption) ?_
            case hyp17 => (intro w hSw; (try dsimp only at hSw); go_simp; try with_reducible rfl)
            (try simp only [Act.put, List.setIfInBounds_toArray, List.set_cons_zero, List.set_cons_succ])
            refine WalkTail.last rfl (by kernel_rfl) (by kernel_rfl) (fun K hK => ?_)
            go_simp
            refine hK.out _ _ ?_
            clear hK K
            obtain ⟨w9, hw9⟩ : ∃ w9, w9 = w8.setCell ⟨w0.heap.size + 1 + 1 + 1, 1, none⟩ (.slice A8 (k + 1) c8) := ⟨_, rfl⟩
            rw [← hw9]
            have hf89 : Fr (fun b => b = w0.heap.size + 3) w8 w9 := by rw [hw9]; exact (Fr.refl (fun b => b = w0.heap.size + 3) w8).set ⟨w0.heap.size + 1 + 1 + 1, 1, none⟩ (.inl rfl) _
            have hCI : ColI f m (some adr) cc nm w0 w9 (k + 1) (.slice A8 (k + 1) c8) 1 := { form := hf89.blk H8.out.2.2.1 (fun e => by omega), tab := by rw [hw9]; exact blk_set H8.out.2.2.2.1 1 _, lit := fun e => absurd e (by omega), own := fun _ => H8.out.1.fr hf89 (fun b hb e => by omega), fr := H8.out.2.1.next hf89 (fun b hb e => by omega), sz := Nat.le_trans H8.out.2.2.2.2 hf89.size }
            have H9 := Lib.hid hCI
            clear hCI hf89 hw9 t18 z18 f08 y8
            go_wp2_with fail
            go_roundw
            case rel => exact ⟨k + 1, _, by omega, by go_num, H9⟩
            case measure => simp [intOf]; omega
          · have hkzi : ¬ (k : Int) = 0 := by omega
            have hOk := J.out.own (by omega)
            obtain ⟨A4, c4, rfl, hc4, _⟩ := hOk.slice
            rw [colsN_len] at hOk hc4 t1 J
            have HV : Hid (Fr No w0 w3 ∧ w3.heap[w0.heap.size]? = some (.cells #[.slice (some adr) m cc, .int .u8 (f.2.toNat : Int)] 89 (0, 0)) ∧ w3.heap[w0.heap.size + 1 + 1 + 1]? = some (.cells #[.string nm, .slice A4 k c4, .int .i64 1] 54 (0, 0)) ∧ w0.heap.size + 4 ≤ w3.heap.size ∧ Ow tCol 91 w3 (fun b => w0.heap.size + 4 ≤ b) (.slice A4 k c4) (colsN f 0 0 k)) := Lib.hid ⟨J.out.fr, J.out.form, J.out.tab, J.out.sz, hOk⟩
            have t14 := t1
            have f04 := f0
            have y4 := y0
            clear t0 t1 t2 f0 f1 z1 z2 hOk hc4
            go_wp2_with fail
            refine wp_region_tail 18 (fun w' => w'.cell? ⟨w0.heap.size + 1 + 1 + 1, 1, none⟩ = some (.slice A4 k c4) ∧ w'.cell? ⟨w0.heap.size, 0, none⟩ = some (.slice (some adr) m cc) ∧ w'.cell? (adr.add k) = some (.int .u8 (B.toNat : Int))) (by kernel_rfl) (by exact ⟨t14, f04, y4⟩) (fun hHeld => ?_)
            refine WalkTail.take (i := 0) (v := ?vq0) rfl (by kernel_rfl) (fun _ _ _ h => h) (Or.inl ⟨by rfl, ?hyq0⟩) (by assumption) ?_
            case hyq0 => (intro w hSw; (try dsimp only at hSw); go_simp; try with_reducible rfl)
            (try simp only [Act.put, List.setIfInBounds_toArray, List.set_cons_zero, List.set_cons_succ])
            refine WalkTail.take (i := 1) (v := ?vq1) rfl (by kernel_rfl) (fun _ _ _ h => h) (Or.inl ⟨by rfl, ?hyq1⟩) (by assumption) ?_
            case hyq1 => (intro w hSw; (try dsimp only at hSw); go_simp; try with_reducible rfl)
            (try simp only [Act.put, List.setIfInBounds_toArray, List.set_cons_zero, List.set_cons_succ])
            refine WalkTail.take (i := 2) (v := ?vq2) rfl (by kernel_rfl) (fun _ _ _ h => h) (Or.inl ⟨by rfl, ?hyq2⟩) (by assumption) ?_
            case hyq2 => (intro w hSw; (try dsimp only at hSw); go_simp; try with_reducible rfl)
            (try simp only [Act.put, List.setIfInBounds_toArray, List.set_cons_zero, List.set_cons_succ])
            refine WalkTail.take (i := 3) (v := ?vq3) rfl (by kernel_rfl) (fun _ _ _ h => h) (Or.inl ⟨by rfl, ?hyq3⟩) (by assumption) ?_
            case hyq3 => (intro w hSw; (try dsimp only at hSw); go_simp; try with_reducible rfl)
            (try simp only [Act.put, List.setIfInBounds_toArray, List.set_cons_zero, List.set_cons_succ])
            refine WalkTail.take (i := 4) (v := ?vq4) rfl (by kernel_rfl) (fun _ _ _ h => h) (Or.inl ⟨by rfl, ?hyq4⟩) (by assumption) ?_
            case hyq4 => (intro w hSw; (try dsimp only at hSw); go_simp; try with_reducible rfl)
            (try simp only [Act.put, List.setIfInBounds_toArray, List.set_cons_zero, List.set_cons_succ])
            refine WalkTail.take (i := 7) (v := ?vq7) rfl (by kernel_rfl) (fun _ _ _ h => h) (Or.inl ⟨by rfl, ?hyq7⟩) (by assumption) ?_
            case hyq7 => (intro w hSw; (try dsimp only at hSw); go_simp; try with_reducible rfl)
            (try simp only [Act.put, List.setIfInBounds_toArray, List.set_cons_zero, List.set_cons_succ])
            refine WalkTail.take (i := 8) (v := ?vq8) rfl (by kernel_rfl) (fun _ _ _ h => h) (Or.inl ⟨by rfl, ?hyq8⟩) (by assumption) ?_
            case hyq8 => (intro w hSw; (try dsimp only at hSw); go_simp; try with_reducible rfl)
            (try simp only [Act.put, List.setIfInBounds_toArray, List.set_cons_zero, List.set_cons_succ])
            refine WalkTail.take (i := 9) (v := ?vq9) rfl (by kernel_rfl) (fun _ _ _ h => h) (Or.inl ⟨by rfl, ?hyq9⟩) (by assumption) ?_
            case hyq9 => (intro w hSw; (try dsimp only at hSw); go_simp; try with_reducible rfl)
            (try simp only [Act.put, List.setIfInBounds_toArray, List.set_cons_zero, List.set_cons_succ])
            refine WalkTail.take (i := 10) (v := ?vq10) rfl (by kernel_rfl) (fun _ _ _ h => h) (Or.inl ⟨by rfl, ?hyq10⟩) (by assumption) ?_
            case hyq10 => (intro w hSw; (try dsimp only at hSw); go_simp; try with_reducible rfl)
            (try simp only [Act.put, List.setIfInBounds_toArray, List.set_cons_zero, List.set_cons_succ])
            refine WalkTail.take (i := 11) (v := ?vq11) rfl (by kernel_rfl) (fun _ _ _ h => h) (Or.inl ⟨by rfl, ?hyq11⟩) (by assumption) ?_
            case hyq11 => (intro w hSw; (try dsimp only at hSw); go_simp; try with_reducible rfl)
            (try simp only [Act.put, List.setIfInBounds_toArray, List.set_cons_zero, List.set_cons_succ])
            refine WalkTail.take (i := 12) (v := ?vq12) rfl (by kernel_rfl) (fun _ _ _ h => h) (Or.inl ⟨by rfl, ?hyq12⟩) (by assumption) ?_
            case hyq12 => (intro w hSw; (try dsimp only at hSw); go_simp; try with_reducible rfl)
            (try simp only [Act.put, List.setIfInBounds_toArray, List.set_cons_zero, List.set_cons_succ])
            refine WalkTail.take (i := 13) (v := ?vq13) rfl (by kernel_rfl) (fun _ _ _ h => h) (Or.inl ⟨by rfl, ?hyq13⟩) (by assumption) ?_
            case hyq13 => (intro w hSw; (try dsimp only at hSw); go_simp; try with_reducible rfl)
            (try simp only [Act.put, List.setIfInBounds_toArray, List.set_cons_zero, List.set_cons_succ])
            refine WalkTail.one (i := 5) rfl (by kernel_rfl) (by decide) (fun K hK => ?_)
            go_simp
            refine hK.out _ _ ?_ (fun hHeld => ?_)
            · exact ⟨cell_alloc t14 _, cell_alloc f04 _, cell_alloc y4 _⟩
            clear hK K
            (try simp only [Act.put, List.setIfInBounds_toArray, List.set_cons_zero, List.set_cons_succ])
            refine WalkTail.one (i := 6) rfl (by kernel_rfl) (by decide) (fun K hK => ?_)
            have hone := run_one_b (w3.alloc (.cells #[.int .u8 (97 + (k : Int))] 5)).drew w3.heap.size (UInt8.ofNat (97 + k)) (x := (97 + (k : Int))) (by exact HO7.out) (heap_alloc_new w3 _)
            rw [show one (UInt8.ofNat (97 + k)) = nameF k from rfl] at hone
            go_simp
            refine hK.out _ _ ?_ (fun hHeld => ?_)
            · exact ⟨cell_alloc t14 _, cell_alloc f04 _, cell_alloc y4 _⟩
            clear hK K hone
            (try simp only [Act.put, List.setIfInBounds_toArray, List.set_cons_zero, List.set_cons_succ])
            refine WalkTail.take (i := 14) (v := ?vq14) rfl (by kernel_rfl) (fun _ _ _ h => h) (Or.inl ⟨by rfl, ?hyq14⟩) (by assumption) ?_
            case hyq14 => (intro w hSw; (try dsimp only at hSw); go_simp; try with_reducible rfl)
            (try simp only [Act.put, List.setIfInBounds_toArray, List.set_cons_zero, List.set_cons_succ])
            refine WalkTail.one (i := 15) rfl (by kernel_rfl) (by decide) (fun K hK => ?_)
            go_simp
            refine hK.out _ _ ?_ (fun hHeld => ?_)
            · exact ⟨cell_alloc (cell_alloc t14 _) _, cell_alloc (cell_alloc f04 _) _, cell_alloc (cell_alloc y4 _) _⟩
            clear hK K
            (try simp only [Act.put, List.setIfInBounds_toArray, List.set_cons_zero, List.set_cons_succ])
            refine WalkTail.one (i := 16) rfl (by kernel_rfl) (by decide) (fun K hK => ?_)
            have hAt : At ((w3.alloc (.cells #[.int .u8 (97 + (k : Int))] 5)).alloc (.cells #[.string (nameF k), .int .u8 (KB.toNat : Int), .bool false] 91)).drew (some ⟨w3.heap.size + 1, 0, none⟩) ([(nameF k, KB, false)].flatMap colC) := At.block (w := ((w3.alloc (.cells #[.int .u8 (97 + (k : Int))] 5)).alloc (.cells #[.string (nameF k), .int .u8 (KB.toNat : Int), .bool false] 91)).drew) (cs := #[.string (nameF k), .int .u8 (KB.toNat : Int), .bool false]) (blk_two2 w3 (.cells #[.int .u8 (97 + (k : Int))] 5) (.cells #[.string (nameF k), .int .u8 (KB.toNat : Int), .bool false] 91))
            refine ow_append_step tCol (ys := [(nameF k, KB, false)]) (HV.out.2.2.2.2.fr0 (show Fr No w3 _ by repeat (first | exact Fr.refl No w3 | apply Fr.alloc | apply Fr.drew | apply Fr.drewN))) _ _ (.agg #[.string ⟨#[]⟩, .int .u8 0, .bool false]) 24 rfl rfl Tryz.underlying52 info_col rfl (by decide) (show 0 < 3 by decide) rfl rfl rfl (row_col.2 rfl) hAt (by rw [colsN_len]; simp only [List.length_singleton]; omega) ?_
            intro A8 c8 w8 ho8 hg8 hat8
            simp only [List.length_singleton, colsN_len] at ho8 hat8 ⊢
            rw [← HB.out.2] at ho8
            have hgA : Fr No w3 ((w3.alloc (.cells #[.int .u8 (97 + (k : Int))] 5)).alloc (.cells #[.string (nameF k), .int .u8 (KB.toNat : Int), .bool false] 91)).drew := (((Fr.refl No w3).alloc _).alloc _).drew
            have hf8 : Fr (fun b => w0.heap.size + 4 ≤ b) w3 w8 := (hgA.mono fun _ _ f => f.elim).grown hg8 fun b hb => .inl (HV.out.2.2.2.2.own hb).1
            have hf08 : Fr No w0 w8 := HV.out.1.next hf8 (fun b hb e => by omega)
            have form8 := hf8.blk HV.out.2.1 (fun e => by omega)
            have tab8 := hf8.blk HV.out.2.2.1 (fun e => by omega)
            have t18 := blk_cell tab8 1
            have z18 := blk_frozen tab8 1
            have f08 := blk_cell form8 0
            simp at t18 f08
            obtain ⟨adr', hadr, y8⟩ := u8_atF (HN.out.2.2.2.1.fr0 hf08) hkf
            obtain rfl := Option.some.inj hadr
            rw [HB.out.1] at y8
            have hs8 : w0.heap.size + 4 ≤ w8.heap.size := Nat.le_trans HV.out.2.2.2.1 hf8.size
            have ho8' : Ow tCol 91 w8 (fun b => w0.heap.size + 4 ≤ b) (.slice A8 (k + 1) c8) (colsN f 0 0 (k + 1)) := ho8.mono fun b hb _ => by
              have := hgA.size
              have := HV.out.2.2.2.1
              rcases hb with hb | hb <;> omega
            have H8 := Lib.hid (And.intro ho8' (And.intro hf08 (And.intro form8 (And.intro tab8 hs8))))
            clear ho8 ho8' hg8 hat8 hgA hf8 hf08 form8 tab8 hs8 hadr hAt
            refine hK.out _ _ ?_ (fun hHeld => ?_)
            · exact ⟨t18, f08, y8⟩
            clear hK K
            (try simp only [Act.put, List.setIfInBounds_toArray, List.set_cons_zero, List.set_cons_succ])
            refine WalkTail.take (i := 17) (v := ?vq17) rfl (by kernel_rfl) (fun _ _ _ h => h) (Or.inl ⟨by rfl, ?hyq17⟩) (by assumption) ?_
            case hyq17 => (intro w hSw; (try dsimp only at hSw); go_simp; try with_reducible rfl)
            (try simp only [Act.put, List.setIfInBounds_toArray, List.set_cons_zero, List.set_cons_succ])
            refine WalkTail.last rfl (by kernel_rfl) (by kernel_rfl) (fun K hK => ?_)
            go_simp
            refine hK.out _ _ ?_
            clear hK K
            obtain ⟨w9, hw9⟩ : ∃ w9, w9 = w8.setCell ⟨w0.heap.size + 1 + 1 + 1, 1, none⟩ (.slice A8 (k + 1) c8) := ⟨_, rfl⟩
            rw [← hw9]
            have hf89 : Fr (fun b => b = w0.heap.size + 3) w8 w9 := by rw [hw9]; exact (Fr.refl (fun b => b = w0.heap.size + 3) w8).set ⟨w0.heap.size + 1 + 1 + 1, 1, none⟩ (.inl rfl) _
            have hCI : ColI f m (some adr) cc nm w0 w9 (k + 1) (.slice A8 (k + 1) c8) 1 := { form := hf89.blk H8.out.2.2.1 (fun e => by omega), tab := by rw [hw9]; exact blk_set H8.out.2.2.2.1 1 _, lit := fun e => absurd e (by omega), own := fun _ => H8.out.1.fr hf89 (fun b hb e => by omega), fr := H8.out.2.1.next hf89 (fun b hb e => by omega), sz := Nat.le_trans H8.out.2.2.2.2 hf89.size }
            have H9 := Lib.hid hCI
            clear hCI hf89 hw9 t18 z18 f08 y8
            go_wp2_with fail
            go_roundw
            case rel => exact ⟨k + 1, _, by omega, by go_num, H9⟩
            case measure => simp [intOf]; omega
        · obtain rfl : k = wd := by omega
          obtain ⟨g, cv, rfl, hcv, hOc⟩ := colI_end ks J.out HD.out.2.2.1
          obtain ⟨nv, hnv⟩ : ∃ nv, max k 1 = nv := ⟨_, rfl⟩
          rw [hnv] at t1 hcv hOc J
          have hf2 : (f.2.toNat : Int) < 256 := by have := f.2.toNat_lt; omega
          have hf20 : (0 : Int) ≤ (f.2.toNat : Int) := Int.natCast_nonneg _
          have hnv1 : (1 : Int) ≤ (nv : Int) := by omega
          have hnv9 : (nv : Int) ≤ 9 := by have := HD.out.1; omega
          have hks : (f.2.toNat : Int).tmod (nv : Int) = (ks : Int) - 1 := by
            have := HD.out.2.1
            rw [hnv] at this
            rw [this, Int.tmod_eq_emod_of_nonneg (by omega)]
            omega
          have hks1 : (1 : Int) ≤ (ks : Int) := by have := HD.out.2.1; omega
          have hksn : (ks : Int) ≤ (nv : Int) := by
            have := HD.out.2.1
            rw [hnv] at this
            have := Nat.mod_lt f.2.toNat (show 0 < nv by omega)
            omega
          have hnz : ¬ ((nv : Int) = 0) := by omega
          have hwks : IntKind.i64.wrap (1 + ((ks : Int) - 1)) = (ks : Int) := by rw [IntWalk.i64_in _ (by omega)]; omega
          have HE := Lib.hid (And.intro hcv (And.intro hOc (And.intro hnv J.out)))
          clear hcv hOc hnv
          rcases HD.out.1.2.2 with hwm | hwm
          · have hkm : ¬ (k : Int) < (m : Int) := by omega
            clear hwm
            go_wp2_with fail
            obtain ⟨w5, hw5⟩ : ∃ w5, w5 = w3.setCell ⟨w0.heap.size + 1 + 1 + 1, 2, none⟩ (.int .i64 (ks : Int)) := ⟨_, rfl⟩
            rw [← hw5]
            have hf35 : Fr (fun b => b = w0.heap.size + 3) w3 w5 := by rw [hw5]; exact (Fr.refl (fun b => b = w0.heap.size + 3) w3).set ⟨w0.heap.size + 1 + 1 + 1, 2, none⟩ (.inl rfl) _
            have hCJ : Hid (w5.heap[w0.heap.size]? = some (.cells #[.slice RR m cc, .int .u8 (f.2.toNat : Int)] 89 (0, 0)) ∧ w5.heap[w0.heap.size + 1 + 1 + 1]? = some (.cells #[.string nm, .slice (some ⟨g, 0, none⟩) nv cv, .int .i64 (ks : Int)] 54 (0, 0)) ∧ Ow tCol 91 w5 (fun b => b = w0.heap.size + 2 ∨ w0.heap.size + 4 ≤ b) (.slice (some ⟨g, 0, none⟩) nv cv) (colsJ f ks ks) ∧ Fr No w0 w5 ∧ w0.heap.size + 4 ≤ w5.heap.size) :=
              Lib.hid ⟨hf35.blk HE.out.2.2.2.form (fun e => by omega), by rw [hw5]; exact blk_set HE.out.2.2.2.tab 2 _, HE.out.2.1.fr hf35 (fun b hb e => by rcases hb with hb | hb <;> omega), HE.out.2.2.2.fr.next hf35 (fun b hb e => by omega), Nat.le_trans HE.out.2.2.2.sz hf35.size⟩
            clear hf35 hw5 t0 t1 t2 f0 f1 z1 z2
            go_loopw [8] (fun jv wr => ∃ (j : Nat), ks ≤ j ∧ j ≤ nv ∧ jv = .int .i64 (j : Int) ∧ Hid (wr.heap[w0.heap.size]? = some (.cells #[.slice RR m cc, .int .u8 (f.2.toNat : Int)] 89 (0, 0)) ∧ wr.heap[w0.heap.size + 1 + 1 + 1]? = some (.cells #[.string nm, .slice (some ⟨g, 0, none⟩) nv cv, .int .i64 (ks : Int)] 54 (0, 0)) ∧ Ow tCol 91 wr (fun b => b = w0.heap.size + 2 ∨ w0.heap.size + 4 ≤ b) (.slice (some ⟨g, 0, none⟩) nv cv) (colsJ f ks j) ∧ Fr No w0 wr ∧ w0.heap.size + 4 ≤ wr.heap.size)) (fun jv _ => nv - (intOf jv).toNat)
            case atStart => exact ⟨ks, Nat.le_refl _, by omega, rfl, hCJ⟩
            case round =>
              obtain ⟨j, hj1, hj2, rfl, Y⟩ := hrel
              have hj0 : (0 : Int) ≤ (j : Int) := Int.natCast_nonneg _
              have f0 := blk_cell Y.out.1 0
              have t1 := blk_cell Y.out.2.1 1
              simp at f0 t1
              by_cases hltj : j < nv
              · have hjn : (j : Int) < (nv : Int) := by omega
                obtain ⟨hne, hjw, hnx⟩ := colsJ_next (f := f) (ks := ks) (k := j) (x := (nameF j, 1 + f.1.getD j 0 % 2, nullF f j)) (by rw [HD.out.2.2.1, HE.out.2.2.1]; exact hltj) hj1 (by omega) rfl
                have hjm : (j : Int) < (m : Int) := by have h1 := HD.out.1; have h2 := HD.out.2.2.1; omega
                have hjf : j < f.1.length := by have h1 := HN.out.2.2.1; omega
                obtain ⟨adr, rfl, y0⟩ := u8_atF (HN.out.2.2.2.1.fr0 Y.out.2.2.2.1) hjf
                obtain ⟨B, hB⟩ : ∃ B, f.1[j] = B := ⟨_, rfl⟩
                rw [hB] at y0
                have hB256 : (B.toNat : Int) < 256 := by have := B.toNat_lt; omega
                have hB0 : (0 : Int) ≤ (B.toNat : Int) := Int.natCast_nonneg _
                have hnull : nullF f j = decide (2 ≤ B.toNat % 4) := by unfold nullF; rw [List.getD_eq_getElem?_getD, List.getElem?_eq_getElem hjf, hB]; rfl
                have hbm : (B.toNat : Int).tmod 4 = ((B.toNat % 4 : Nat) : Int) := by rw [Int.tmod_eq_emod_of_nonneg (by omega)]; omega
                obtain ⟨q, hq⟩ : ∃ q, B.toNat % 4 = q := ⟨_, rfl⟩
                rw [hq] at hnull hbm
                have hcol : ∃ z, wr.cell? ⟨g, j * 3 + 2, none⟩ = some z ∧ wr.frozen? ⟨g, j * 3 + 2, none⟩ = false := by
                  obtain ⟨cs, q1, q2, q3⟩ := Y.out.2.2.1
                  rcases q1.2 with ⟨q4, _⟩ | ⟨g', cap, cur, he, _, hg, h1, h2, h3, h4⟩
                  · cases q4
                  · injection he with e1 e2 e3
                    injection e1 with e1
                    injection e1 with e1
                    subst e1 e3
                    have h3' : cur.size = cv * 3 := h3
                    have hcv := HE.out.1
                    exact ⟨cur[j * 3 + 2]'(by omega), by rw [blk_cell hg]; exact Array.getElem?_eq_getElem _, blk_frozen hg _⟩
                obtain ⟨z, hz0, hz1⟩ := hcol
                have HB := Lib.hid (And.intro hnull hnx)
                clear hnull hnx hB hq hne hjw
                go_wp2_with fail
                refine wp_region_tail 12 (fun w' => w'.cell? ⟨w0.heap.size + 1 + 1 + 1, 1, none⟩ = some (.slice (some ⟨g, 0, none⟩) nv cv) ∧ w'.cell? ⟨w0.heap.size, 0, none⟩ = some (.slice (some adr) m cc) ∧ w'.cell? (adr.add j) = some (.int .u8 (B.toNat : Int))) (by kernel_rfl) (by exact ⟨t1, f0, y0⟩) (fun hHeld => ?_)
                refine WalkTail.take (i := 0) (v := ?vr0) rfl (by kernel_rfl) (fun _ _ _ h => h) (Or.inl ⟨by rfl, ?hyr0⟩) (by assumption) ?_
                case hyr0 => (intro w hSw; (try dsimp only at hSw); go_simp; try with_reducible rfl)
                (try simp only [Act.put, List.setIfInBounds_toArray, List.set_cons_zero, List.set_cons_succ])
                refine WalkTail.take (i := 1) (v := ?vr1) rfl (by kernel_rfl) (fun _ _ _ h => h) (Or.inl ⟨by rfl, ?hyr1⟩) (by assumption) ?_
                case hyr1 => (intro w hSw; (try dsimp only at hSw); go_simp; try with_reducible rfl)
                (try simp only [Act.put, List.setIfInBounds_toArray, List.set_cons_zero, List.set_cons_succ])
                refine WalkTail.take (i := 2) (v := ?vr2) rfl (by kernel_rfl) (fun _ _ _ h => h) (Or.inl ⟨by rfl, ?hyr2⟩) (by assumption) ?_
                case hyr2 => (intro w hSw; (try dsimp only at hSw); go_simp; try with_reducible rfl)
                (try simp only [Act.put, List.setIfInBounds_toArray, List.set_cons_zero, List.set_cons_succ])
                refine WalkTail.take (i := 3) (v := ?vr3) rfl (by kernel_rfl) (fun _ _ _ h => h) (Or.inl ⟨by rfl, ?hyr3⟩) (by assumption) ?_
                case hyr3 => (intro w hSw; (try dsimp only at hSw); go_simp; try with_reducible rfl)
                (try simp only [Act.put, List.setIfInBounds_toArray, List.set_cons_zero, List.set_cons_succ])
                refine WalkTail.take (i := 4) (v := ?vr4) rfl (by kernel_rfl) (fun _ _ _ h => h) (Or.inl ⟨by rfl, ?hyr4⟩) (by assumption) ?_
                case hyr4 => (intro w hSw; (try dsimp only at hSw); go_simp; try with_reducible rfl)
                (try simp only [Act.put, List.setIfInBounds_toArray, List.set_cons_zero, List.set_cons_succ])
                refine WalkTail.take (i := 5) (v := ?vr5) rfl (by kernel_rfl) (fun _ _ _ h => h) (Or.inl ⟨by rfl, ?hyr5⟩) (by assumption) ?_
                case hyr5 => (intro w hSw; (try dsimp only at hSw); go_simp; try with_reducible rfl)
                (try simp only [Act.put, List.setIfInBounds_toArray, List.set_cons_zero, List.set_cons_succ])
                refine WalkTail.take (i := 6) (v := ?vr6) rfl (by kernel_rfl) (fun _ _ _ h => h) (Or.inl ⟨by rfl, ?hyr6⟩) (by assumption) ?_
                case hyr6 => (intro w hSw; (try dsimp only at hSw); go_simp; try with_reducible rfl)
                (try simp only [Act.put, List.setIfInBounds_toArray, List.set_cons_zero, List.set_cons_succ])
                refine WalkTail.take (i := 7) (v := ?vr7) rfl (by kernel_rfl) (fun _ _ _ h => h) (Or.inl ⟨by rfl, ?hyr7⟩) (by assumption) ?_
                case hyr7 => (intro w hSw; (try dsimp only at hSw); go_simp; try with_reducible rfl)
                (try simp only [Act.put, List.setIfInBounds_toArray, List.set_cons_zero, List.set_cons_succ])
                refine WalkTail.take (i := 8) (v := ?vr8) rfl (by kernel_rfl) (fun _ _ _ h => h) (Or.inl ⟨by rfl, ?hyr8⟩) (by assumption) ?_
                case hyr8 => (intro w hSw; (try dsimp only at hSw); go_simp; try with_reducible rfl)
                (try simp only [Act.put, List.setIfInBounds_toArray, List.set_cons_zero, List.set_cons_succ])
                refine WalkTail.take (i := 9) (v := ?vr9) rfl (by kernel_rfl) (fun _ _ _ h => h) (Or.inl ⟨by rfl, ?hyr9⟩) (by assumption) ?_
                case hyr9 => (intro w hSw; (try dsimp only at hSw); go_simp; try with_reducible rfl)
                (try simp only [Act.put, List.setIfInBounds_toArray, List.set_cons_zero, List.set_cons_succ])
                refine WalkTail.take (i := 10) (v := ?vr10) rfl (by kernel_rfl) (fun _ _ _ h => h) (Or.inl ⟨by rfl, ?hyr10⟩) (by assumption) ?_
                case hyr10 => (intro w hSw; (try dsimp only at hSw); go_simp; try with_reducible rfl)
                (try simp only [Act.put, List.setIfInBounds_toArray, List.set_cons_zero, List.set_cons_succ])
                refine WalkTail.take (i := 11) (v := ?vr11) rfl (by kernel_rfl) (fun _ _ _ h => h) (Or.inl ⟨by rfl, ?hyr11⟩) (by assumption) ?_
                case hyr11 => (intro w hSw; (try dsimp only at hSw); go_simp; try with_reducible rfl)
                (try simp only [Act.put, List.setIfInBounds_toArray, List.set_cons_zero, List.set_cons_succ])
                refine WalkTail.last rfl (by kernel_rfl) (by kernel_rfl) (fun K hK => ?_)
                go_simp
                refine hK.out _ _ ?_
                clear hK K
                have hbq : decide ((2 : Int) ≤ (q : Int)) = decide (2 ≤ q) := by rw [decide_eq_decide]; omega
                rw [hbq]
                obtain ⟨w9, hw9⟩ : ∃ w9, w9 = (wr.setCell ⟨g, j * 3 + 2, none⟩ (.bool (decide (2 ≤ q)))).drew := ⟨_, rfl⟩
                rw [← hw9]
                have hgb : g = w0.heap.size + 2 ∨ w0.heap.size + 4 ≤ g := (Y.out.2.2.1.own (by rfl)).1
                have hf9 : Fr (fun b => b = g) wr w9 := by rw [hw9]; exact ((Fr.refl (fun b => b = g) wr).set ⟨g, j * 3 + 2, none⟩ (.inl rfl) _).drew
                have hO9 : Ow tCol 91 w9 (fun b => b = w0.heap.size + 2 ∨ w0.heap.size + 4 ≤ b) (.slice (some ⟨g, 0, none⟩) nv cv) (colsJ f ks (j + 1)) := by
                  have h1 := Y.out.2.2.1
                  have hjv : j < max (wideF f) 1 := by rw [HD.out.2.2.1, HE.out.2.2.1]; exact hltj
                  have h2 := Ow.store (j := j * 3 + 2) (u := .bool (nullF f j)) (xs' := colsJ f ks (j + 1)) h1 (by rw [colsJ_len, colsJ_len]) (fun cs hr => colsJ_row hjv hj1 (by omega) hr)
                  rw [HB.out.1] at h2
                  rw [hw9]
                  exact h2.fr0 (Fr.refl No _).drew
                have hYY : Hid (w9.heap[w0.heap.size]? = some (.cells #[.slice (some adr) m cc, .int .u8 (f.2.toNat : Int)] 89 (0, 0)) ∧ w9.heap[w0.heap.size + 1 + 1 + 1]? = some (.cells #[.string nm, .slice (some ⟨g, 0, none⟩) nv cv, .int .i64 (ks : Int)] 54 (0, 0)) ∧ Ow tCol 91 w9 (fun b => b = w0.heap.size + 2 ∨ w0.heap.size + 4 ≤ b) (.slice (some ⟨g, 0, none⟩) nv cv) (colsJ f ks (j + 1)) ∧ Fr No w0 w9 ∧ w0.heap.size + 4 ≤ w9.heap.size) :=
                  Lib.hid ⟨hf9.blk Y.out.1 (fun e => by omega), hf9.blk Y.out.2.1 (fun e => by omega), hO9, Y.out.2.2.2.1.next hf9 (fun b hb e => by omega), Nat.le_trans Y.out.2.2.2.2 hf9.size⟩
                clear hf9 hO9 hw9 hgb hbq f0 t1 y0 hz0 hz1
                go_wp2_with fail
                go_roundw
                case rel => exact ⟨j + 1, by omega, by omega, by go_num, hYY⟩
                case measure => simp [intOf]; omega
              · obtain rfl : j = nv := by omega
                have t0 := blk_cell Y.out.2.1 0
                have t2 := blk_cell Y.out.2.1 2
                simp at t0 t2
                obtain ⟨W2, hW2⟩ : ∃ W2, W2 = wr.alloc (.cells #[.string nm, .slice (some ⟨g, 0, none⟩) j cv, .int .i64 (ks : Int)] 54) := ⟨_, rfl⟩
                have hfa : Fr No wr W2 := by rw [hW2]; exact (Fr.refl No wr).alloc _
                have hA : At W2 (some ⟨wr.heap.size, 0, none⟩) [.string nm, .slice (some ⟨g, 0, none⟩) j cv, .int .i64 (ks : Int)] := by rw [hW2]; exact At.block (heap_alloc_new wr _)
                have hlen : (colsJ f ks j).length = j := by rw [colsJ_len, HD.out.2.2.1, HE.out.2.2.1]
                have hsz0 := I.out.2.size
                have hcol : Rd tCol W2 (fun b => w.heap.size ≤ b ∧ (Value.slice Ao i co).ownBlock ≠ some b) (some ⟨g, 0, none⟩) (colsJ f ks j) := ((Y.out.2.2.1.rd.2.2).fr0 hfa).mono fun b hb _ => ⟨by omega, fun he => by have := (I.out.1.own he).2; omega⟩
                have hrow : Row tTab W2 (fun b => w.heap.size ≤ b ∧ (Value.slice Ao i co).ownBlock ≠ some b) [(nm, colsJ f ks j, (ks : Int))] [.string nm, .slice (some ⟨g, 0, none⟩) j cv, .int .i64 (ks : Int)] :=
                  Row.single (t := tTab) ⟨[.string nm], [.slice (some ⟨g, 0, none⟩) j cv, .int .i64 (ks : Int)], rfl, rfl, [.slice (some ⟨g, 0, none⟩) j cv], [.int .i64 (ks : Int)], rfl, ⟨_, cv, by rw [hlen], by rw [hlen]; exact HE.out.1, hcol⟩, rfl⟩
                have hti : ((tabsF l).take i).length = i := by have := H.out.2.2.2.2.2; rw [List.length_take]; omega
                obtain ⟨A1, c1, w1, hrun, hO, hg, _⟩ := run_ow_append (P := Tryz.prog) (ty := 27) (ty' := 27) tTab ((I.out.1.fr0 Y.out.2.2.2.1).fr0 hfa) (.agg #[.string ⟨#[]⟩, .slice none 0 0, .int .i64 0]) 48 Tryz.underlying27 info_tab rfl (by decide) (by decide) 1 (ys := [(nm, colsJ f ks j, (ks : Int))]) hrow hA (by rw [hti]; simp only [List.length_singleton]; omega)
                rw [hti] at hrun hO
                simp only [List.length_singleton] at hrun hO
                have htake : (tabsF l).take i ++ [(nm, colsJ f ks j, (ks : Int))] = (tabsF l).take (i + 1) := by
                  have hil' : i < (tabsF l).length := by have := H.out.2.2.2.2.2; omega
                  have hx : (tabsF l)[i] = (nm, colsJ f ks j, (ks : Int)) := by
                    have h1 := HN.out.2.2.2.2.1
                    rw [List.getElem?_eq_getElem hil'] at h1
                    rw [Option.some.inj h1, tabF_eq, HN.out.1, HD.out.2.2.1, HD.out.2.2.2, HE.out.2.2.1]
                  rw [List.take_succ_eq_append_getElem hil', hx]
                rw [htake] at hO
                have hO' : Ow tTab 54 w1 (fun b => w.heap.size ≤ b) (.slice A1 (i + 1) c1) ((tabsF l).take (i + 1)) := hO.mono fun b hb _ => by
                  have h1 := hfa.size
                  have h2 := Y.out.2.2.2.2
                  rcases hb with hb | hb <;> omega
                have hfw1 : Fr No w w1 := ((I.out.2.next Y.out.2.2.2.1 (fun _ _ f => f.elim)).next hfa (fun _ _ f => f.elim)).grown hg fun b hb => .inr (I.out.1.own hb).1
                have HF := Lib.hid (And.intro hO' hfw1)
                clear hfa hA hlen hsz0 hcol hrow hti hO hg htake hO' hfw1 f0
                go_wp2_with (at_builtin; rw [← hW2]; refine wpList_plain rfl fun K hK => wp_append_run _ _ _ _ rfl rfl rfl hrun (hK _ _ ?_))
                go_roundw
                case rel => exact ⟨i + 1, A1, c1, by omega, by go_num, rfl, HF⟩
                case measure => simp [intOf]; omega
          · have hkm : (k : Int) < (m : Int) := by omega
            have hk8 : ¬ (k : Int) < 8 := by omega
            clear hwm
            go_wp2_with fail
            obtain ⟨w5, hw5⟩ : ∃ w5, w5 = w3.setCell ⟨w0.heap.size + 1 + 1 + 1, 2, none⟩ (.int .i64 (ks : Int)) := ⟨_, rfl⟩
            rw [← hw5]
            have hf35 : Fr (fun b => b = w0.heap.size + 3) w3 w5 := by rw [hw5]; exact (Fr.refl (fun b => b = w0.heap.size + 3) w3).set ⟨w0.heap.size + 1 + 1 + 1, 2, none⟩ (.inl rfl) _
            have hCJ : Hid (w5.heap[w0.heap.size]? = some (.cells #[.slice RR m cc, .int .u8 (f.2.toNat : Int)] 89 (0, 0)) ∧ w5.heap[w0.heap.size + 1 + 1 + 1]? = some (.cells #[.string nm, .slice (some ⟨g, 0, none⟩) nv cv, .int .i64 (ks : Int)] 54 (0, 0)) ∧ Ow tCol 91 w5 (fun b => b = w0.heap.size + 2 ∨ w0.heap.size + 4 ≤ b) (.slice (some ⟨g, 0, none⟩) nv cv) (colsJ f ks ks) ∧ Fr No w0 w5 ∧ w0.heap.size + 4 ≤ w5.heap.size) :=
              Lib.hid ⟨hf35.blk HE.out.2.2.2.form (fun e => by omega), by rw [hw5]; exact blk_set HE.out.2.2.2.tab 2 _, HE.out.2.1.fr hf35 (fun b hb e => by rcases hb with hb | hb <;> omega), HE.out.2.2.2.fr.next hf35 (fun b hb e => by omega), Nat.le_trans HE.out.2.2.2.sz hf35.size⟩
            clear hf35 hw5 t0 t1 t2 f0 f1 z1 z2
            go_loopw [8] (fun jv wr => ∃ (j : Nat), ks ≤ j ∧ j ≤ nv ∧ jv = .int .i64 (j : Int) ∧ Hid (wr.heap[w0.heap.size]? = some (.cells #[.slice RR m cc, .int .u8 (f.2.toNat : Int)] 89 (0, 0)) ∧ wr.heap[w0.heap.size + 1 + 1 + 1]? = some (.cells #[.string nm, .slice (some ⟨g, 0, none⟩) nv cv, .int .i64 (ks : Int)] 54 (0, 0)) ∧ Ow tCol 91 wr (fun b => b = w0.heap.size + 2 ∨ w0.heap.size + 4 ≤ b) (.slice (some ⟨g, 0, none⟩) nv cv) (colsJ f ks j) ∧ Fr No w0 wr ∧ w0.heap.size + 4 ≤ wr.heap.size)) (fun jv _ => nv - (intOf jv).toNat)
            case atStart => exact ⟨ks, Nat.le_refl _, by omega, rfl, hCJ⟩
            case round =>
              obtain ⟨j, hj1, hj2, rfl, Y⟩ := hrel
              have hj0 : (0 : Int) ≤ (j : Int) := Int.natCast_nonneg _
              have f0 := blk_cell Y.out.1 0
              have t1 := blk_cell Y.out.2.1 1
              simp at f0 t1
              by_cases hltj : j < nv
              · have hjn : (j : Int) < (nv : Int) := by omega
                obtain ⟨hne, hjw, hnx⟩ := colsJ_next (f := f) (ks := ks) (k := j) (x := (nameF j, 1 + f.1.getD j 0 % 2, nullF f j)) (by rw [HD.out.2.2.1, HE.out.2.2.1]; exact hltj) hj1 (by omega) rfl
                have hjm : (j : Int) < (m : Int) := by have h1 := HD.out.1; have h2 := HD.out.2.2.1; omega
                have hjf : j < f.1.length := by have h1 := HN.out.2.2.1; omega
                obtain ⟨adr, rfl, y0⟩ := u8_atF (HN.out.2.2.2.1.fr0 Y.out.2.2.2.1) hjf
                obtain ⟨B, hB⟩ : ∃ B, f.1[j] = B := ⟨_, rfl⟩
                rw [hB] at y0
                have hB256 : (B.toNat : Int) < 256 := by have := B.toNat_lt; omega
                have hB0 : (0 : Int) ≤ (B.toNat : Int) := Int.natCast_nonneg _
                have hnull : nullF f j = decide (2 ≤ B.toNat % 4) := by unfold nullF; rw [List.getD_eq_getElem?_getD, List.getElem?_eq_getElem hjf, hB]; rfl
                have hbm : (B.toNat : Int).tmod 4 = ((B.toNat % 4 : Nat) : Int) := by rw [Int.tmod_eq_emod_of_nonneg (by omega)]; omega
                obtain ⟨q, hq⟩ : ∃ q, B.toNat % 4 = q := ⟨_, rfl⟩
                rw [hq] at hnull hbm
                have hcol : ∃ z, wr.cell? ⟨g, j * 3 + 2, none⟩ = some z ∧ wr.frozen? ⟨g, j * 3 + 2, none⟩ = false := by
                  obtain ⟨cs, q1, q2, q3⟩ := Y.out.2.2.1
                  rcases q1.2 with ⟨q4, _⟩ | ⟨g', cap, cur, he, _, hg, h1, h2, h3, h4⟩
                  · cases q4
                  · injection he with e1 e2 e3
                    injection e1 with e1
                    injection e1 with e1
                    subst e1 e3
                    have h3' : cur.size = cv * 3 := h3
                    have hcv := HE.out.1
                    exact ⟨cur[j * 3 + 2]'(by omega), by rw [blk_cell hg]; exact Array.getElem?_eq_getElem _, blk_frozen hg _⟩
                obtain ⟨z, hz0, hz1⟩ := hcol
                have HB := Lib.hid (And.intro hnull hnx)
                clear hnull hnx hB hq hne hjw
                go_wp2_with fail
                refine wp_region_tail 12 (fun w' => w'.cell? ⟨w0.heap.size + 1 + 1 + 1, 1, none⟩ = some (.slice (some ⟨g, 0, none⟩) nv cv) ∧ w'.cell? ⟨w0.heap.size, 0, none⟩ = some (.slice (some adr) m cc) ∧ w'.cell? (adr.add j) = some (.int .u8 (B.toNat : Int))) (by kernel_rfl) (by exact ⟨t1, f0, y0⟩) (fun hHeld => ?_)
                refine WalkTail.take (i := 0) (v := ?vs0) rfl (by kernel_rfl) (fun _ _ _ h => h) (Or.inl ⟨by rfl, ?hys0⟩) (by assumption) ?_
                case hys0 => (intro w hSw; (try dsimp only at hSw); go_simp; try with_reducible rfl)
                (try simp only [Act.put, List.setIfInBounds_toArray, List.set_cons_zero, List.set_cons_succ])
                refine WalkTail.take (i := 1) (v := ?vs1) rfl (by kernel_rfl) (fun _ _ _ h => h) (Or.inl ⟨by rfl, ?hys1⟩) (by assumption) ?_
                case hys1 => (intro w hSw; (try dsimp only at hSw); go_simp; try with_reducible rfl)
                (try simp only [Act.put, List.setIfInBounds_toArray, List.set_cons_zero, List.set_cons_succ])
                refine WalkTail.take (i := 2) (v := ?vs2) rfl (by kernel_rfl) (fun _ _ _ h => h) (Or.inl ⟨by rfl, ?hys2⟩) (by assumption) ?_
                case hys2 => (intro w hSw; (try dsimp only at hSw); go_simp; try with_reducible rfl)
                (try simp only [Act.put, List.setIfInBounds_toArray, List.set_cons_zero, List.set_cons_succ])
                refine WalkTail.take (i := 3) (v := ?vs3) rfl (by kernel_rfl) (fun _ _ _ h => h) (Or.inl ⟨by rfl, ?hys3⟩) (by assumption) ?_
                case hys3 => (intro w hSw; (try dsimp only at hSw); go_simp; try with_reducible rfl)
                (try simp only [Act.put, List.setIfInBounds_toArray, List.set_cons_zero, List.set_cons_succ])
                refine WalkTail.take (i := 4) (v := ?vs4) rfl (by kernel_rfl) (fun _ _ _ h => h) (Or.inl ⟨by rfl, ?hys4⟩) (by assumption) ?_
                case hys4 => (intro w hSw; (try dsimp only at hSw); go_simp; try with_reducible rfl)
                (try simp only [Act.put, List.setIfInBounds_toArray, List.set_cons_zero, List.set_cons_succ])
                refine WalkTail.take (i := 5) (v := ?vs5) rfl (by kernel_rfl) (fun _ _ _ h => h) (Or.inl ⟨by rfl, ?hys5⟩) (by assumption) ?_
                case hys5 => (intro w hSw; (try dsimp only at hSw); go_simp; try with_reducible rfl)
                (try simp only [Act.put, List.setIfInBounds_toArray, List.set_cons_zero, List.set_cons_succ])
                refine WalkTail.take (i := 6) (v := ?vs6) rfl (by kernel_rfl) (fun _ _ _ h => h) (Or.inl ⟨by rfl, ?hys6⟩) (by assumption) ?_
                case hys6 => (intro w hSw; (try dsimp only at hSw); go_simp; try with_reducible rfl)
                (try simp only [Act.put, List.setIfInBounds_toArray, List.set_cons_zero, List.set_cons_succ])
                refine WalkTail.take (i := 7) (v := ?vs7) rfl (by kernel_rfl) (fun _ _ _ h => h) (Or.inl ⟨by rfl, ?hys7⟩) (by assumption) ?_
                case hys7 => (intro w hSw; (try dsimp only at hSw); go_simp; try with_reducible rfl)
                (try simp only [Act.put, List.setIfInBounds_toArray, List.set_cons_zero, List.set_cons_succ])
                refine WalkTail.take (i := 8) (v := ?vs8) rfl (by kernel_rfl) (fun _ _ _ h => h) (Or.inl ⟨by rfl, ?hys8⟩) (by assumption) ?_
                case hys8 => (intro w hSw; (try dsimp only at hSw); go_simp; try with_reducible rfl)
                (try simp only [Act.put, List.setIfInBounds_toArray, List.set_cons_zero, List.set_cons_succ])
                refine WalkTail.take (i := 9) (v := ?vs9) rfl (by kernel_rfl) (fun _ _ _ h => h) (Or.inl ⟨by rfl, ?hys9⟩) (by assumption) ?_
                case hys9 => (intro w hSw; (try dsimp only at hSw); go_simp; try with_reducible rfl)
                (try simp only [Act.put, List.setIfInBounds_toArray, List.set_cons_zero, List.set_cons_succ])
                refine WalkTail.take (i := 10) (v := ?vs10) rfl (by kernel_rfl) (fun _ _ _ h => h) (Or.inl ⟨by rfl, ?hys10⟩) (by assumption) ?_
                case hys10 => (intro w hSw; (try dsimp only at hSw); go_simp; try with_reducible rfl)
                (try simp only [Act.put, List.setIfInBounds_toArray, List.set_cons_zero, List.set_cons_succ])
                refine WalkTail.take (i := 11) (v := ?vs11) rfl (by kernel_rfl) (fun _ _ _ h => h) (Or.inl ⟨by rfl, ?hys11⟩) (by assumption) ?_
                case hys11 => (intro w hSw; (try dsimp only at hSw); go_simp; try with_reducible rfl)
                (try simp only [Act.put, List.setIfInBounds_toArray, List.set_cons_zero, List.set_cons_succ])
                refine WalkTail.last rfl (by kernel_rfl) (by kernel_rfl) (fun K hK => ?_)
                go_simp
                refine hK.out _ _ ?_
                clear hK K
                have hbq : decide ((2 : Int) ≤ (q : Int)) = decide (2 ≤ q) := by rw [decide_eq_decide]; omega
                rw [hbq]
                obtain ⟨w9, hw9⟩ : ∃ w9, w9 = (wr.setCell ⟨g, j * 3 + 2, none⟩ (.bool (decide (2 ≤ q)))).drew := ⟨_, rfl⟩
                rw [← hw9]
                have hgb : g = w0.heap.size + 2 ∨ w0.heap.size + 4 ≤ g := (Y.out.2.2.1.own (by rfl)).1
                have hf9 : Fr (fun b => b = g) wr w9 := by rw [hw9]; exact ((Fr.refl (fun b => b = g) wr).set ⟨g, j * 3 + 2, none⟩ (.inl rfl) _).drew
                have hO9 : Ow tCol 91 w9 (fun b => b = w0.heap.size + 2 ∨ w0.heap.size + 4 ≤ b) (.slice (some ⟨g, 0, none⟩) nv cv) (colsJ f ks (j + 1)) := by
                  have h1 := Y.out.2.2.1
                  have hjv : j < max (wideF f) 1 := by rw [HD.out.2.2.1, HE.out.2.2.1]; exact hltj
                  have h2 := Ow.store (j := j * 3 + 2) (u := .bool (nullF f j)) (xs' := colsJ f ks (j + 1)) h1 (by rw [colsJ_len, colsJ_len]) (fun cs hr => colsJ_row hjv hj1 (by omega) hr)
                  rw [HB.out.1] at h2
                  rw [hw9]
                  exact h2.fr0 (Fr.refl No _).drew
                have hYY : Hid (w9.heap[w0.heap.size]? = some (.cells #[.slice (some adr) m cc, .int .u8 (f.2.toNat : Int)] 89 (0, 0)) ∧ w9.heap[w0.heap.size + 1 + 1 + 1]? = some (.cells #[.string nm, .slice (some ⟨g, 0, none⟩) nv cv, .int .i64 (ks : Int)] 54 (0, 0)) ∧ Ow tCol 91 w9 (fun b => b = w0.heap.size + 2 ∨ w0.heap.size + 4 ≤ b) (.slice (some ⟨g, 0, none⟩) nv cv) (colsJ f ks (j + 1)) ∧ Fr No w0 w9 ∧ w0.heap.size + 4 ≤ w9.heap.size) :=
                  Lib.hid ⟨hf9.blk Y.out.1 (fun e => by omega), hf9.blk Y.out.2.1 (fun e => by omega), hO9, Y.out.2.2.2.1.next hf9 (fun b hb e => by omega), Nat.le_trans Y.out.2.2.2.2 hf9.size⟩
                clear hf9 hO9 hw9 hgb hbq f0 t1 y0 hz0 hz1
                go_wp2_with fail
                go_roundw
                case rel => exact ⟨j + 1, by omega, by omega, by go_num, hYY⟩
                case measure => simp [intOf]; omega
              · obtain rfl : j = nv := by omega
                have t0 := blk_cell Y.out.2.1 0
                have t2 := blk_cell Y.out.2.1 2
                simp at t0 t2
                obtain ⟨W2, hW2⟩ : ∃ W2, W2 = wr.alloc (.cells #[.string nm, .slice (some ⟨g, 0, none⟩) j cv, .int .i64 (ks : Int)] 54) := ⟨_, rfl⟩
                have hfa : Fr No wr W2 := by rw [hW2]; exact (Fr.refl No wr).alloc _
                have hA : At W2 (some ⟨wr.heap.size, 0, none⟩) [.string nm, .slice (some ⟨g, 0, none⟩) j cv, .int .i64 (ks : Int)] := by rw [hW2]; exact At.block (heap_alloc_new wr _)
                have hlen : (colsJ f ks j).length = j := by rw [colsJ_len, HD.out.2.2.1, HE.out.2.2.1]
                have hsz0 := I.out.2.size
                have hcol : Rd tCol W2 (fun b => w.heap.size ≤ b ∧ (Value.slice Ao i co).ownBlock ≠ some b) (some ⟨g, 0, none⟩) (colsJ f ks j) := ((Y.out.2.2.1.rd.2.2).fr0 hfa).mono fun b hb _ => ⟨by omega, fun he => by have := (I.out.1.own he).2; omega⟩
                have hrow : Row tTab W2 (fun b => w.heap.size ≤ b ∧ (Value.slice Ao i co).ownBlock ≠ some b) [(nm, colsJ f ks j, (ks : Int))] [.string nm, .slice (some ⟨g, 0, none⟩) j cv, .int .i64 (ks : Int)] :=
                  Row.single (t := tTab) ⟨[.string nm], [.slice (some ⟨g, 0, none⟩) j cv, .int .i64 (ks : Int)], rfl, rfl, [.slice (some ⟨g, 0, none⟩) j cv], [.int .i64 (ks : Int)], rfl, ⟨_, cv, by rw [hlen], by rw [hlen]; exact HE.out.1, hcol⟩, rfl⟩
                have hti : ((tabsF l).take i).length = i := by have := H.out.2.2.2.2.2; rw [List.length_take]; omega
                obtain ⟨A1, c1, w1, hrun, hO, hg, _⟩ := run_ow_append (P := Tryz.prog) (ty := 27) (ty' := 27) tTab ((I.out.1.fr0 Y.out.2.2.2.1).fr0 hfa) (.agg #[.string ⟨#[]⟩, .slice none 0 0, .int .i64 0]) 48 Tryz.underlying27 info_tab rfl (by decide) (by decide) 1 (ys := [(nm, colsJ f ks j, (ks : Int))]) hrow hA (by rw [hti]; simp only [List.length_singleton]; omega)
                rw [hti] at hrun hO
                simp only [List.length_singleton] at hrun hO
                have htake : (tabsF l).take i ++ [(nm, colsJ f ks j, (ks : Int))] = (tabsF l).take (i + 1) := by
                  have hil' : i < (tabsF l).length := by have := H.out.2.2.2.2.2; omega
                  have hx : (tabsF l)[i] = (nm, colsJ f ks j, (ks : Int)) := by
                    have h1 := HN.out.2.2.2.2.1
                    rw [List.getElem?_eq_getElem hil'] at h1
                    rw [Option.some.inj h1, tabF_eq, HN.out.1, HD.out.2.2.1, HD.out.2.2.2, HE.out.2.2.1]
                  rw [List.take_succ_eq_append_getElem hil', hx]
                rw [htake] at hO
                have hO' : Ow tTab 54 w1 (fun b => w.heap.size ≤ b) (.slice A1 (i + 1) c1) ((tabsF l).take (i + 1)) := hO.mono fun b hb _ => by
                  have h1 := hfa.size
                  have h2 := Y.out.2.2.2.2
                  rcases hb with hb | hb <;> omega
                have hfw1 : Fr No w w1 := ((I.out.2.next Y.out.2.2.2.1 (fun _ _ f => f.elim)).next hfa (fun _ _ f => f.elim)).grown hg fun b hb => .inr (I.out.1.own hb).1
                have HF := Lib.hid (And.intro hO' hfw1)
                clear hfa hA hlen hsz0 hcol hrow hti hO hg htake hO' hfw1 f0
                go_wp2_with (at_builtin; rw [← hW2]; refine wpList_plain rfl fun K hK => wp_append_run _ _ _ _ rfl rfl rfl hrun (hK _ _ ?_))
                go_roundw
                case rel => exact ⟨i + 1, A1, c1, by omega, by go_num, rfl, HF⟩
                case measure => simp [intOf]; omega
    · obtain rfl : i = N := by omega
      by_cases hn4 : i = 4
      · have hi4 : ¬ (i : Int) < 4 := by omega
        have HI := Lib.hid (show (tabsF l).take i = tabsF l from List.take_of_length_le (by have := H.out.2.2.2.2.2; omega))
        clear hn4
        go_wp2_with fail
        go_ret
        exact ⟨Ao, co, rfl, by have := I.out.1; rwa [HI.out] at this, I.out.2⟩
      · have hi4 : (i : Int) < 4 := by omega
        have hin : ¬ (i : Int) < (n : Int) := by have := H.out.2.2.2.2.1; have := H.out.2.1; omega
        have hi1 : ¬ (i : Int) = 0 := by omega
        have HI := Lib.hid (show (tabsF l).take i = tabsF l from List.take_of_length_le (by have := H.out.2.2.2.2.2; omega))
        clear hn4
        go_wp2_with fail
        go_ret
        exact ⟨Ao, co, rfl, by have := I.out.1; rwa [HI.out] at this, I.out.2⟩
end Go.Proofs.YtlmhphejgahfbaaGreatDoor
