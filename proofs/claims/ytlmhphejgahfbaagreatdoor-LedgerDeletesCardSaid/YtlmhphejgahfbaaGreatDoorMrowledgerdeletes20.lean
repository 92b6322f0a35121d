/- Texts of this claim, one behind the other: Begin, Rec, KeysW. -/
import Derived.Test.YtlmhphejgahfbaaGreatDoorMrowledgerdeletes19
import Derived.Test.YtlmhphejgahfbaaGreatDoorMrowledgerdeletes16
import Derived.Test.YtlmhphejgahfbaaGreatDoorMrowledgerdeletes6
import Derived.Test.YtlmhphejgahfbaaGreatDoorShelf2
import Derived.Test.YtlmhphejgahfbaaGreatDoorMrowledgerdeletes18
import Derived.Test.YtlmhphejgahfbaaGreatDoorShelf
import Derived.Sort.KeysCollected
/- Layer 15 (ledger): New and Begin over a ledger's parts. -/
set_option linter.unusedVariables false
set_option linter.unusedSimpArgs false
namespace Go.Proofs.YtlmhphejgahfbaaGreatDoor
open Go.RowKit

theorem sto_new_at {w : World} {F : Nat → Prop} {sb vb : Nat} (h1 : F sb) (h2 : F vb) (hs : w.heap[sb]? = some (.cells #[.map (some vb), .int .i64 0] 159 (0, 0))) (hv : w.heap[vb]? = some (.map #[] 0)) : StoreAt w F sb Sto.empty := by
  have hne : vb ≠ sb := by rintro rfl; rw [hs] at hv; cases hv
  refine ⟨h1, vb, [], fun _ _ => False, h2, hne, hs, ⟨#[], 0, hv, rfl, by simp, by simp, by simp⟩, ?_, fun k i hi => (show False from hi).elim⟩
  exact ⟨List.Pairwise.nil, fun k => ⟨fun _ => rfl, fun _ => rfl⟩, (fun k v c h1 _ => by cases h1), fun _ _ hi => (show False from hi).elim, fun _ _ _ _ hi => (show False from hi).elim⟩
/-- A new ledger's parts. -/
theorem newAt_led6 {w0 w1 w : World} {lb : Nat} {A : Option Addr} {c : Nat} {tabs : List Tab} {F : Nat → Prop} (h : NewAt2 w w1.heap.size lb A tabs.length c) (hR : Rd tTab w F A tabs) (hF : ∀ i, F i → w0.heap.size ≤ i ∧ i < w1.heap.size) (hc : tabs.length ≤ c) (hk : KAt w0) (hkw : KAt w) (hz : w0.heap.size ≤ w1.heap.size) :
    ∃ col, LedAt w col lb (Led.new tabs) ∧ (∀ i, i < w0.heap.size → col i = 0) ∧ ∀ i, w0.heap.size ≤ i → i < w1.heap.size → col i = 6 := by
  obtain ⟨sb, vb, mb, gb, ⟨b1, b2, b3, b4, b5, nvm⟩, h1, h2, h3, h4, h5⟩ := h
  have n1 : lb ≠ sb := by rintro rfl; rw [h1] at h2; injection h2 with h2; injection h2 with h2; simp at h2
  have n2 : lb ≠ vb := by rintro rfl; rw [h1] at h3; cases h3
  have n3 : lb ≠ mb := by rintro rfl; rw [h1] at h4; cases h4
  have n4 : lb ≠ gb := by rintro rfl; rw [h1] at h5; injection h5 with h5; injection h5 with h5; simp at h5
  have n5 : sb ≠ mb := by rintro rfl; rw [h2] at h4; cases h4
  have n6 : sb ≠ gb := by rintro rfl; rw [h2] at h5; injection h5 with h5; injection h5 with h5; simp at h5
  have n7 : gb ≠ mb := by rintro rfl; rw [h5] at h4; cases h4
  have n8 : gb ≠ vb := by rintro rfl; rw [h5] at h3; cases h3
  have l1 := blk_lt h1
  have l2 := blk_lt h2
  have l3 := blk_lt h3
  have l4 := blk_lt h4
  have l5 := blk_lt h5
  obtain ⟨col, hcol⟩ : ∃ col : Nat → Nat, col = fun i => if i < w0.heap.size then 0 else if i < w1.heap.size then 6 else if i = lb then 1 else if i = mb then 2 else if i = sb ∨ i = vb then 3 else if i = gb then 4 else 9 := ⟨_, rfl⟩
  have e0 : ∀ i, i < w0.heap.size → col i = 0 := fun i hi => by rw [hcol]; simp only [if_pos hi]
  have e6 : ∀ i, w0.heap.size ≤ i → i < w1.heap.size → col i = 6 := fun i h h' => by rw [hcol]; simp only [if_neg (show ¬ i < w0.heap.size by omega), if_pos h']
  have eb : ∀ i, w1.heap.size ≤ i → col i = if i = lb then 1 else if i = mb then 2 else if i = sb ∨ i = vb then 3 else if i = gb then 4 else 9 := fun i h => by rw [hcol]; simp only [if_neg (show ¬ i < w0.heap.size by omega), if_neg (show ¬ i < w1.heap.size by omega)]
  have e1 : col lb = 1 := by rw [eb _ b1, if_pos rfl]
  have e2 : col mb = 2 := by rw [eb _ b4, if_neg (fun e => n3 e.symm), if_pos rfl]
  have e3 : col sb = 3 := by rw [eb _ b2, if_neg (fun e => n1 e.symm), if_neg n5, if_pos (.inl rfl)]
  have e3' : col vb = 3 := by rw [eb _ b3, if_neg (fun e => n2 e.symm), if_neg nvm, if_pos (.inr rfl)]
  have e4 : col gb = 4 := by rw [eb _ b5, if_neg (fun e => n4 e.symm), if_neg n7, if_neg (by rintro (e | e); exact n6 e.symm; exact n8 e), if_pos rfl]
  refine ⟨col, ⟨A, c, sb, mb, .slice (some ⟨gb, 0, none⟩) 1 1, [], ?_⟩, e0, e6⟩
  refine { blk := h1, c1 := e1, c2 := e2, cap := hc, tabs := hR.mono fun i hi _ => e6 i (hF i hi).1 (hF i hi).2, sto := sto_new_at e3 e3' h2 h3, map := ⟨#[], 0, h4, rfl, by simp, by simp, by simp⟩, txs := ⟨fun _ _ => rfl, fun id x hx => by cases hx⟩, sts := ?_, own := fun k hk => ?_, kat := hkw, kc := e0 _ (kat_lt hk) }
  · refine ⟨[.string firstD, .string dE, .string (sha []), .pointer none], ⟨rfl, .inr ⟨gb, 1, _, rfl, Nat.zero_le _, h5, Nat.le_refl _, by decide, rfl, rfl⟩⟩, Row.single (t := tStt col) ⟨.pointer none, rfl, rfl⟩, fun k hk => ?_⟩
    simp [Value.ownBlock] at hk; subst hk; exact .inl e4
  · simp [Value.ownBlock] at hk; subst hk; exact e4
theorem newAt_led {w0 w1 w : World} {lb : Nat} {A : Option Addr} {c : Nat} {tabs : List Tab} {F : Nat → Prop} (h : NewAt2 w w1.heap.size lb A tabs.length c) (hR : Rd tTab w F A tabs) (hF : ∀ i, F i → w0.heap.size ≤ i ∧ i < w1.heap.size) (hc : tabs.length ≤ c) (hk : KAt w0) (hkw : KAt w) (hz : w0.heap.size ≤ w1.heap.size) :
    ∃ col, LedAt w col lb (Led.new tabs) ∧ ∀ i, i < w0.heap.size → col i = 0 := by
  obtain ⟨col, h1, h2, _⟩ := newAt_led6 h hR hF hc hk hkw hz
  exact ⟨col, h1, h2⟩

set_option maxHeartbeats 1000000 in
theorem led_begin_at {w : World} {col : Nat → Nat} {lb : Nat} {L : Led} {m : Nat} (h : LedAt w col lb L) (hok : L.Ok m) (hm : m ≤ 4000) :
    Calls Tryz.prog 11 #[.pointer (some ⟨lb, 0, none⟩)] w fun e w' => e = .returned (.int .i64 (L.next + 1)) ∧ (∃ col', (∀ i, i < w.heap.size → col' i = col i) ∧ LedAt w' col' lb L.begin_) ∧ Fr (fun i => col i = 1 ∨ col i = 2) w w' := by
  obtain ⟨A, c, sb, mb, vst, l, hP⟩ := h
  obtain ⟨hsc, mv, l2, G, _, _, hsb, _⟩ := hP.sto
  have hc1 := hP.c1
  have hc2 := hP.c2
  have hsc' : col sb = 3 := hsc
  have hn1 := hok.next1
  have hn0 := hok.next0
  refine (led_begin hP.blk hsb hP.map (fun e => by rw [e] at hc1; omega) (fun e => by rw [e] at hc1; omega) (fun e => by rw [e] at hsc'; omega) hn0 (by omega)).mono ?_
  rintro e w' ⟨xb, rfl, hb', hm', ⟨hxB, yb, hyB, hx, hy⟩, hf⟩
  have hlt : ∀ i, i < w.heap.size → ext col w.heap.size (txCol (L.next + 1)) i = col i := fun i hi => ext_old col hi
  have hr := hP.recol (col' := ext col w.heap.size (txCol (L.next + 1))) hlt
  have hS : ∀ i, i < w.heap.size → ext col w.heap.size (txCol (L.next + 1)) i ≠ 1 → ext col w.heap.size (txCol (L.next + 1)) i ≠ 2 → ¬ (i = lb ∨ i = mb) := fun i hi h1 h2 e => by
    rw [hlt i hi] at h1 h2
    rcases e with e | e
    · rw [e] at h1; exact h1 hc1
    · rw [e] at h2; exact h2 hc2
  have hnew : ∀ i, w.heap.size ≤ i → ext col w.heap.size (txCol (L.next + 1)) i = txCol (L.next + 1) := fun i hi => ext_new col hi
  have hT : TxAt w' (fun i => ext col w.heap.size (txCol (L.next + 1)) i = txCol (L.next + 1)) xb L.s.now [] := by
    refine ⟨hnew _ hxB, yb, [], hnew _ hyB, ?_, hx, ⟨#[], 0, hy, rfl, by simp, by simp, by simp⟩, ⟨List.Pairwise.nil, fun _ _ => rfl, fun k x h => by cases h⟩⟩
    rintro rfl
    rw [hx] at hy; cases hy
  refine ⟨rfl, ⟨ext col w.heap.size (txCol (L.next + 1)), hlt, A, c, sb, mb, vst, layI (L.next + 1) (.pointer (some ⟨xb, 0, none⟩)) l, ?_⟩, hf.mono fun i _ e => by rcases e with e | e; exact .inl (by rw [e]; exact hc1); exact .inr (by rw [e]; exact hc2)⟩
  refine { blk := hb', c1 := hr.c1, c2 := hr.c2, cap := hr.cap, tabs := hr.tabs.stab fun i hi hl => hf.block i hl (hS i hl (by rw [hi]; decide) (by rw [hi]; decide)), sto := hr.sto.stab hf.size fun i hi hl => hf.block i hl (hS i hl (by rw [hi]; decide) (by rw [hi]; decide)), map := hm', txs := ⟨fun id h' => ?_, fun id y hy => ?_⟩, sts := hr.sts.stab fun i hi hl => hf.block i hl (hS i hl (by rcases hi with hi | hi <;> rw [hi] <;> decide) (by rcases hi with hi | hi <;> rw [hi] <;> decide)), own := hr.own, kat := hP.kat.fr hf (hS _ (kat_lt hP.kat) (by rw [hr.kc]; decide) (by rw [hr.kc]; decide)), kc := hr.kc }
  · rw [find_begin (fun x hx => (hok.ids x hx).2)] at h'
    rw [look_layI]
    split at h'
    · cases h'
    · rename_i e; rw [if_neg (fun q => e q.symm)]; exact hP.txs.none_ _ h'
  · rw [find_begin (fun x hx => (hok.ids x hx).2)] at hy
    rw [look_layI]
    split at hy
    · rename_i e
      injection hy with hy
      subst hy
      subst e
      exact ⟨xb, if_pos rfl, hT⟩
    · rename_i e
      obtain ⟨xb', h1, h2⟩ := hr.txs.some_ id y hy
      refine ⟨xb', by rw [if_neg (fun q => e q.symm)]; exact h1, h2.stab fun i hi hl => hf.block i hl (hS i hl ?_ ?_)⟩
      · have := txCol_ge id; omega
      · have := txCol_ge id; omega
end Go.Proofs.YtlmhphejgahfbaaGreatDoor
/- record: number, blob, Encode. -/
set_option linter.unusedVariables false
set_option linter.unusedSimpArgs false
namespace Go.Proofs.YtlmhphejgahfbaaGreatDoor
open Go.RowKit

theorem ow_new1 {w : World} (b : UInt8) {x : Int} (hx : x = (b.toNat : Int)) : Ow Ty.u8 5 (w.alloc (.cells #[.int .u8 x] 5)) (fun k => w.heap.size ≤ k) (.slice (some ⟨w.heap.size, 0, none⟩) 1 1) [b] := by
  subst hx
  refine ⟨[.int .u8 (b.toNat : Int)], ⟨rfl, .inr ⟨w.heap.size, 1, _, rfl, Nat.zero_le _, heap_alloc_new w _, Nat.le_refl _, by decide, rfl, rfl⟩⟩, row_u8b _ _ b, fun k hk => ?_⟩
  simp [Value.ownBlock] at hk; omega

set_option maxHeartbeats 1000000 in
set_option maxRecDepth 100000 in
theorem number_ok {w : World} {F : Nat → Prop} {A : Option Addr} {m c k : Nat} {xs : Bs} {n : Nat} {sz : Int} (h : Ow Ty.u8 5 w F (.slice A m c) xs) (hm : m = xs.length) (hl : xs.length ≤ 1000000000) (hk : k ≤ 7) (hsz : sz = (k : Int) + 1) :
    Calls Tryz.prog 199 #[.slice A m c, .int .u64 (n : Int), .int .i64 sz] w fun e w' => ∃ A' c', e = .returned (.slice A' (m + (k + 1)) c') ∧ Ow Ty.u8 5 w' (fun i => F i ∨ w.heap.size ≤ i) (.slice A' (m + (k + 1)) c') (xs ++ beN n (k + 1)) ∧ Fr F w w' := by
  subst hm hsz
  have hn0 : (0 : Int) ≤ (n : Int) := Int.natCast_nonneg _
  have hk0 : (0 : Int) ≤ (k : Int) := Int.natCast_nonneg _
  have hk1 : (k : Int) ≤ 7 := by omega
  have H := Lib.hid (And.intro h hl)
  clear h hl
  go_enter Tryz.func199, Tryz.ntmps199
  go_wp2_with fail
  go_loopw [0, 7] (fun v s wr => ∃ (j : Nat) (e : Int) (A' : Option Addr) (c' : Nat), j ≤ k + 1 ∧ e = (k : Int) - (j : Int) ∧ v = .slice A' (xs.length + j) c' ∧ s = .int .i64 e ∧ Hid (Ow Ty.u8 5 wr (fun i => F i ∨ w.heap.size ≤ i) (.slice A' (xs.length + j) c') (xs ++ (beN n (k + 1)).take j) ∧ Fr F w wr)) (fun _ s _ => (intOf s + 1).toNat)
  case atStart => exact ⟨0, _, A, c, by omega, by omega, rfl, rfl, by simpa using H.out.1.mono fun i hi _ => .inl hi, Fr.refl _ _⟩
  case round =>
    obtain ⟨j, e, A', c', hj, he, rfl, rfl, I⟩ := hrel
    by_cases hlt : 0 ≤ e
    · obtain ⟨r, rfl⟩ := Int.eq_ofNat_of_zero_le hlt
      have hr7 : (r : Int) ≤ 7 := by omega
      have hjl : j < (beN n (k + 1)).length := by rw [beN_len]; omega
      have hb := beN_get n (k + 1) j (by omega)
      rw [show k + 1 - 1 - j = r by omega] at hb
      obtain ⟨b, hbb⟩ : ∃ b, UInt8.ofNat (n / 2 ^ (8 * r)) = b := ⟨_, rfl⟩
      have qb : (b.toNat : Int) = (n : Int) / 2 ^ (8 * r) % 256 := by
        rw [← hbb, UInt8.toNat_ofNat', Int.natCast_emod, Int.natCast_ediv, Int.natCast_pow]; rfl
      have hnext : xs ++ (beN n (k + 1)).take j ++ [b] = xs ++ (beN n (k + 1)).take (j + 1) := by rw [List.take_succ_eq_append_getElem hjl, hb, hbb, List.append_assoc]
      have hlen : (xs ++ (beN n (k + 1)).take j).length = xs.length + j := by rw [List.length_append, List.length_take, beN_len]; omega
      obtain ⟨W1, hW1⟩ : ∃ W1, W1 = wr.alloc (.cells #[.int .u8 ((n : Int) / 2 ^ (8 * r) % 256)] 5) := ⟨_, rfl⟩
      have hf1 : Fr No wr W1 := by rw [hW1]; exact (Fr.refl No wr).alloc _
      have hA : At W1 (some ⟨wr.heap.size, 0, none⟩) [.int .u8 (b.toNat : Int)] := by
        rw [hW1, qb]; exact At.block (heap_alloc_new wr _)
      have hO := I.out.1.fr0 hf1
      have hll := H.out.2
      obtain ⟨A1, c1, w1, hrun, hO1, hg1, _⟩ := run_ow_append (P := Tryz.prog) (ty := 46) (ty' := 46) Ty.u8 hO (.int .u8 0) 1 Tryz.underlying46 info_u8 rfl (by decide) (by decide) 1 (ys := [b]) (row_u8b _ _ b) hA (by rw [hlen]; simp; omega)
      rw [hlen] at hrun hO1
      rw [hnext] at hO1
      have hf2 : Fr F w w1 := (I.out.2.next hf1 (fun _ _ f => f.elim)).grown hg1 fun k hk => (I.out.1.own hk).1
      have hsz : w.heap.size ≤ W1.heap.size := Nat.le_trans I.out.2.size hf1.size
      have HH := Lib.hid (And.intro hO1 (And.intro hf2 hsz))
      clear hsz hO1 hf2 hg1 hO hA hf1 hlen hnext qb hbb hb hjl
      have HE2 := Lib.hid he
      clear he
      simp only [List.length_singleton] at hrun HH
      go_wp2_with (at_builtin; rw [← hW1]; refine wpList_plain rfl fun K hK => wp_append_run _ _ _ _ rfl rfl rfl hrun (hK _ _ ?_))
      go_roundw
      case rel => exact ⟨j + 1, (r : Int) - 1, A1, c1, by have := HE2.out; omega, by have := HE2.out; omega, rfl, by go_num, HH.out.1.mono fun i hi _ => by (have := HH.out.2.2; rcases hi with hi | hi; exact hi; right; omega), HH.out.2.1⟩
      case measure => simp [intOf]
    · obtain rfl : j = k + 1 := by omega
      have ht : (beN n (k + 1)).take (k + 1) = beN n (k + 1) := List.take_of_length_le (by rw [beN_len]; omega)
      rw [ht] at I
      clear ht
      go_wp2_with fail
      go_ret
      exact ⟨A', c', rfl, I.out.1, I.out.2⟩

set_option maxHeartbeats 1000000 in
set_option maxRecDepth 100000 in
theorem blob_ok {w : World} {F R : Nat → Prop} {A B : Option Addr} {m c n c2 : Nat} {xs ys : Bs} (h : Ow Ty.u8 5 w F (.slice A m c) xs) (hm : m = xs.length) (hl : xs.length ≤ 900000000) (hr : Rd Ty.u8 w R B ys) (hd : ∀ i, R i → ¬ F i) (hn : n = ys.length) (hy : ys.length ≤ 100000) :
    Calls Tryz.prog 200 #[.slice A m c, .slice B n c2] w fun e w' => ∃ A' c', e = .returned (.slice A' (m + (2 + ys.length)) c') ∧ Ow Ty.u8 5 w' (fun i => F i ∨ w.heap.size ≤ i) (.slice A' (m + (2 + ys.length)) c') (xs ++ (beN ys.length 2 ++ ys)) ∧ Fr F w w' := by
  subst hm hn
  have hn63 : (ys.length : Int) ≤ 100000 := by omega
  have hy0 : (0 : Int) ≤ (ys.length : Int) := Int.natCast_nonneg _
  have hnum := number_ok (k := 1) (n := ys.length) (sz := 2) h rfl (by omega) (by omega) rfl
  have hlen2 : (beN ys.length 2).length = 2 := beN_len _ _
  obtain ⟨P2, hP2⟩ : ∃ P2, xs ++ beN ys.length 2 = P2 := ⟨_, rfl⟩
  have hPl : xs.length + (1 + 1) = P2.length := by rw [← hP2, List.length_append, hlen2]
  rw [show xs.length + (2 + ys.length) = P2.length + ys.length by omega, ← List.append_assoc, hP2]
  rw [show (1 : Nat) + 1 = 2 from rfl] at hnum hPl
  rw [hP2, hPl] at hnum
  have hPb : P2.length ≤ 900000002 := by omega
  have H := Lib.hid (And.intro hnum (And.intro hr (And.intro hd (And.intro hPb hy))))
  clear h hr hd hl hy hnum hlen2 hP2 hPl hPb
  go_enter Tryz.func200, Tryz.ntmps200
  go_wp2_with fail
  refine H.out.1.mono ?_
  rintro e w1 ⟨A1, c1, rfl, ho, hf⟩
  obtain ⟨cs, hR, hA⟩ := (H.out.2.1.fr hf H.out.2.2.1).at
  have hl2 := H.out.2.2.2.1
  have hy2 := H.out.2.2.2.2
  obtain ⟨A3, c3, w3, hrun, hO3, hg3, _⟩ := run_ow_append (P := Tryz.prog) (ty := 46) (ty' := 46) Ty.u8 ho (.int .u8 0) 1 Tryz.underlying46 info_u8 rfl (by decide) (by decide) c2 (hR.imp fun _ _ h => h) hA (by omega)
  have hsz := hf.size
  have HH := Lib.hid (And.intro (hO3.mono (G := fun i => F i ∨ w.heap.size ≤ i) fun i hi _ => by rcases hi with (hi | hi) | hi; exact .inl hi; exact .inr hi; exact .inr (by omega)) (hf.grown hg3 fun k hk => (ho.own hk).1))
  clear ho hf hR hA hO3 hg3 hl2 hy2 hsz
  go_wp2_with (at_builtin; refine wpList_plain rfl fun K hK => wp_append_run _ _ _ _ rfl rfl rfl hrun (hK _ _ ?_))
  go_ret
  exact ⟨A3, c3, rfl, HH.out.1, HH.out.2⟩

theorem Ow.tight {e : TypeId} {w : World} {F : Nat → Prop} {v : Value} {xs : Bs} (h : Ow Ty.u8 e w F v xs) : Ow Ty.u8 e w (fun i => v.ownBlock = some i) v xs := by
  obtain ⟨cs, h1, h2, h3⟩ := h
  exact ⟨cs, h1, h2.imp fun _ _ h => h, fun k hk => hk⟩
/-- The same to bytes of one's own. -/
theorem number_own {w : World} {B : Nat} {A : Option Addr} {m c k : Nat} {xs : Bs} {n : Nat} {sz : Int} (h : Ow Ty.u8 5 w (fun i => B ≤ i) (.slice A m c) xs) (hB : B ≤ w.heap.size) (hm : m = xs.length) (hl : xs.length ≤ 1000000000) (hk : k ≤ 7) (hsz : sz = (k : Int) + 1) :
    Calls Tryz.prog 199 #[.slice A m c, .int .u64 (n : Int), .int .i64 sz] w fun e w' => ∃ A' c', e = .returned (.slice A' (xs ++ beN n (k + 1)).length c') ∧ Ow Ty.u8 5 w' (fun i => B ≤ i) (.slice A' (xs ++ beN n (k + 1)).length c') (xs ++ beN n (k + 1)) ∧ Fr (fun i => (Value.slice A m c).ownBlock = some i) w w' := by
  refine (number_ok h.tight hm hl hk hsz).mono ?_
  rintro e w' ⟨A', c', rfl, ho, hf⟩
  have e1 : m + (k + 1) = (xs ++ beN n (k + 1)).length := by rw [List.length_append, beN_len, hm]
  rw [e1] at ho ⊢
  exact ⟨A', c', rfl, ho.mono fun i hi _ => by rcases hi with hi | hi; exact (h.own hi).1; exact Nat.le_trans hB hi, hf⟩
theorem blob_own {w : World} {R : Nat → Prop} {B : Nat} {A D : Option Addr} {m c n c2 : Nat} {xs ys : Bs} (h : Ow Ty.u8 5 w (fun i => B ≤ i) (.slice A m c) xs) (hB : B ≤ w.heap.size) (hm : m = xs.length) (hl : xs.length ≤ 900000000) (hr : Rd Ty.u8 w R D ys) (hd : ∀ i, R i → (Value.slice A m c).ownBlock ≠ some i) (hn : n = ys.length) (hy : ys.length ≤ 100000) :
    Calls Tryz.prog 200 #[.slice A m c, .slice D n c2] w fun e w' => ∃ A' c', e = .returned (.slice A' (xs ++ (beN ys.length 2 ++ ys)).length c') ∧ Ow Ty.u8 5 w' (fun i => B ≤ i) (.slice A' (xs ++ (beN ys.length 2 ++ ys)).length c') (xs ++ (beN ys.length 2 ++ ys)) ∧ Fr (fun i => (Value.slice A m c).ownBlock = some i) w w' ∧ ∀ i, (Value.slice A' (xs ++ (beN ys.length 2 ++ ys)).length c').ownBlock = some i → (Value.slice A m c).ownBlock = some i ∨ w.heap.size ≤ i := by
  refine (blob_ok h.tight hm hl hr hd hn hy).mono ?_
  rintro e w' ⟨A', c', rfl, ho, hf⟩
  have e1 : m + (2 + ys.length) = (xs ++ (beN ys.length 2 ++ ys)).length := by rw [List.length_append, List.length_append, beN_len, hm]
  rw [e1] at ho ⊢
  exact ⟨A', c', rfl, ho.mono fun i hi _ => by rcases hi with hi | hi; exact (h.own hi).1; exact Nat.le_trans hB hi, hf, fun i hi => (ho.own hi).1⟩
theorem wrr_at {w : World} {F : Nat → Prop} {A : Option Addr} {l : List Wr} (h : Rd tWr w F A l) {i : Nat} (hi : i < l.length) :
    ∃ ad D c, A = some ad ∧ w.cell? (ad.add (i * 3)) = some (.string l[i].key) ∧ w.cell? ⟨(ad.add (i * 3)).block, (ad.add (i * 3)).off + 1, none⟩ = some (.slice D l[i].row.length c) ∧ w.cell? ⟨(ad.add (i * 3)).block, (ad.add (i * 3)).off + 2, none⟩ = some (.bool l[i].gone) ∧ l[i].row.length ≤ c ∧ Rd Ty.u8 w F D l[i].row := by
  obtain ⟨ad, cs, e, hk, h0, h1⟩ := h.get' hi (by decide)
  obtain ⟨D, c, rfl, hc, hr⟩ := tWr_open hk
  exact ⟨ad, D, c, e, h0 _ rfl, h1 1 _ (by decide) rfl, h1 2 _ (by decide) rfl, hc, hr⟩

theorem wrB_le {x : Wr} (h1 : x.key.size ≤ 4000) (h2 : x.row.length ≤ 4000) : (wrB x).length ≤ 8010 := by
  unfold wrB
  rw [List.length_append, List.length_append, beN_len, keyB_len]
  split
  · simp; omega
  · rw [List.length_cons, List.length_append, beN_len]; omega
theorem flat_le' {α : Type} {f : α → Bs} {m : Nat} {l : List α} (h : ∀ x ∈ l, (f x).length ≤ m) : (l.flatMap f).length ≤ m * l.length := by
  induction l with
  | nil => simp
  | cons x l ih =>
    have h1 := h x (List.mem_cons_self ..)
    have h2 := ih fun y hy => h y (List.mem_cons_of_mem _ hy)
    rw [List.flatMap_cons, List.length_append, List.length_cons, Nat.mul_add]
    omega
set_option maxHeartbeats 1000000 in
set_option maxRecDepth 100000 in
theorem encode_ok {w : World} {R : Nat → Prop} {A : Option Addr} {c n N : Nat} {ws : List Wr} (h : Rd tWr w R A ws) (hn : n = ws.length) (hl : ws.length ≤ 64) (hN : N ≤ 1000000000) (hk : ∀ x ∈ ws, x.key.size ≤ 4000 ∧ x.row.length ≤ 4000) :
    Calls Tryz.prog 148 #[.agg #[.int .i64 (N : Int), .slice A n c]] w fun e w' => ∃ A' c', e = .returned (.slice A' (recB N ws).length c') ∧ Ow Ty.u8 5 w' (fun i => w.heap.size ≤ i) (.slice A' (recB N ws).length c') (recB N ws) ∧ Fr No w w' := by
  subst hn
  have hN0 : (0 : Int) ≤ (N : Int) := Int.natCast_nonneg _
  have hN1 : (N : Int) ≤ 1000000000 := by omega
  have hl0 : (0 : Int) ≤ (ws.length : Int) := Int.natCast_nonneg _
  have hl1 : (ws.length : Int) ≤ 64 := by omega
  unfold recB
  rw [show (N : Int).toNat = N from Int.toNat_natCast N]
  obtain ⟨hd, hhd⟩ : ∃ hd, beN N 8 ++ beN ws.length 2 = hd := ⟨_, rfl⟩
  rw [hhd]
  have HD := Lib.hid hhd
  clear hhd
  have hw8 : IntKind.u64.wrap (N : Int) = (N : Int) := by show (N : Int) % 18446744073709551616 = _; omega
  have hw2 : IntKind.u64.wrap (ws.length : Int) = (ws.length : Int) := by show (ws.length : Int) % 18446744073709551616 = _; omega
  obtain ⟨W, hW⟩ : ∃ W, W = w.alloc (.cells #[.int .i64 (N : Int), .slice A ws.length c] 69) := ⟨_, rfl⟩
  have hfW : Fr No w W := by rw [hW]; exact (Fr.refl No w).alloc _
  have b0 := blk_cell (w := W) (by rw [hW]; exact heap_alloc_new w _) 0
  have b1 := blk_cell (w := W) (by rw [hW]; exact heap_alloc_new w _) 1
  simp at b0 b1
  have H := Lib.hid (And.intro h (And.intro hk hfW))
  clear h hk hfW hN
  go_enter Tryz.func148, Tryz.ntmps148
  go_wp2_with fail
  rw [← hW]
  clear hW
  have HN1 := Lib.hid fun (w' : World) (f : Fr No W w') => (number_own (w := w') (B := w'.heap.size) (A := none) (m := 0) (c := 0) (k := 7) (xs := []) (n := N) (sz := 8) Ow.nil (Nat.le_refl _) rfl (by simp) (by omega) rfl)
  have HN2 := Lib.hid fun (w' : World) (A2 : Option Addr) (c2 : Nat) (h : Ow Ty.u8 5 w' (fun i => W.heap.size ≤ i) (.slice A2 (beN N 8).length c2) (beN N 8)) (hB : W.heap.size ≤ w'.heap.size) => number_own (k := 1) (n := ws.length) (sz := 2) h hB rfl (by rw [beN_len]; decide) (by decide) rfl
  go_region_held3 (fun w' => w'.cell? ⟨w.heap.size, 0, none⟩ = some (.int .i64 (N : Int)) ∧ w'.cell? ⟨w.heap.size, 1, none⟩ = some (.slice A ws.length c))
    (first
      | exact ⟨b0, b1⟩
      | exact ⟨q0, q1⟩
      | exact ⟨r0, r1⟩)
    (first
      | (go_at_call_of 199 (Value.slice none 0 0); refine (HN1.out _ (by repeat (first | exact Fr.refl _ _ | apply Fr.drew | apply Fr.drewN))).mono ?_; rintro e2 w2 ⟨A2, c2, rfl, ho2, hf2⟩
         have hg2 : Fr No W w2 := Fr.trans (by repeat (first | exact Fr.refl _ _ | apply Fr.drew | apply Fr.drewN)) (hf2.mono fun i _ f => by simp [Value.ownBlock] at f)
         have q0 := hg2.cell b0 (fun f => f)
         have q1 := hg2.cell b1 (fun f => f)
         have H2 := Lib.hid (And.intro ho2 hg2)
         clear ho2 hf2 hg2)
      | (go_at_call 199; refine (HN2.out _ A2 c2 (H2.out.1.fr0 (by repeat (first | exact Fr.refl _ _ | apply Fr.drew | apply Fr.drewN))) H2.out.2.size).mono ?_; rintro e3 w3 ⟨A3, c3, rfl, ho3, hf3⟩
         have hg3 : Fr No W w3 := Fr.next (by repeat (first | exact H2.out.2 | apply Fr.drew | apply Fr.drewN)) hf3 (fun i hi g => by have h1 := (H2.out.1.own g).1; have h2 : W.heap.size ≤ i := h1; omega)
         have r0 := hg3.cell b0 (fun f => f)
         have r1 := hg3.cell b1 (fun f => f)
         have H3 := Lib.hid (And.intro ho3 hg3)
         clear ho3 hf3 hg3))
  all_goals
    go_wp2_with fail
    have hhd := HD.out
    have hhl : hd.length = 10 := by rw [← hhd, List.length_append, beN_len, beN_len]
    have hO0 := H3.out.1
    rw [hhd] at hO0
    have HS := Lib.hid (And.intro (hO0.mono (G := fun i => w.heap.size ≤ i) fun i hi _ => Nat.le_trans H.out.2.2.size hi) (And.intro (H.out.2.2.next H3.out.2 (fun _ _ f => f.elim)) (And.intro hhl (show (beN N 8).length + (beN ws.length 2).length = hd.length by rw [← hhd, List.length_append]))))
    clear hO0 hhl hhd
    go_loopw [3, 18] (fun v iv wr => ∃ (k : Nat) (A' : Option Addr) (c' : Nat), k ≤ ws.length ∧ iv = .int .i64 (k : Int) ∧ v = .slice A' (hd ++ (ws.take k).flatMap wrB).length c' ∧ Hid (Ow Ty.u8 5 wr (fun i => w.heap.size ≤ i) (.slice A' (hd ++ (ws.take k).flatMap wrB).length c') (hd ++ (ws.take k).flatMap wrB) ∧ Fr No w wr)) (fun _ iv _ => ws.length - (intOf iv).toNat)
    case atStart => exact ⟨0, A3, c3, Nat.zero_le _, rfl, by simp [HS.out.2.2.2], by simpa using HS.out.1, HS.out.2.1⟩
    case round =>
      obtain ⟨k, A', c', hk, rfl, rfl, I⟩ := hrel
      have hk0 : (0 : Int) ≤ (k : Int) := Int.natCast_nonneg _
      by_cases hlt : k < ws.length
      · have hk1 : (k : Int) < (ws.length : Int) := by omega
        have hR := H.out.1.mono (G := fun i => i < w.heap.size) fun i _ hl => hl
        obtain ⟨ad, D, cr, rfl, x0, x1, x2, hcr, hrow⟩ := wrr_at (hR.fr0 I.out.2) hlt
        obtain ⟨hk1', hk2'⟩ := H.out.2.1 ws[k] (List.getElem_mem hlt)
        have hsucc : hd ++ (ws.take k).flatMap wrB ++ wrB ws[k] = hd ++ (ws.take (k + 1)).flatMap wrB := by rw [List.append_assoc, List.take_succ_eq_append_getElem hlt, List.flatMap_append]; simp
        have hpl : ((ws.take k).flatMap wrB).length ≤ 8010 * (ws.take k).length := flat_le' fun x hx => by obtain ⟨a, b⟩ := H.out.2.1 x (List.mem_of_mem_take hx); exact wrB_le a b
        have hpl2 : (hd ++ (ws.take k).flatMap wrB).length ≤ 8010 * k + 10 := by rw [List.length_append, HS.out.2.2.1]; rw [List.length_take] at hpl; omega
        obtain ⟨x, hx⟩ : ∃ x, ws[k] = x := ⟨_, rfl⟩
        rw [hx] at x0 x1 x2 hcr hrow hk1' hk2' hsucc
        clear hx hpl hR
        obtain ⟨key, row, gone⟩ := x
        dsimp only at x0 x1 x2 hcr hrow hk1' hk2'
        obtain ⟨pre, hpre⟩ : ∃ pre, hd ++ (ws.take k).flatMap wrB = pre := ⟨_, rfl⟩
        rw [hpre] at I hsucc hpl2 ⊢
        obtain ⟨W1, hW1⟩ : ∃ W1, W1 = wr.alloc (.cells #[.string key, .slice D row.length cr, .bool gone] 117) := ⟨_, rfl⟩
        have hf1 : Fr No wr W1 := by rw [hW1]; exact (Fr.refl No wr).alloc _
        have hb1 : W1.heap[wr.heap.size]? = some (.cells #[.string key, .slice D row.length cr, .bool gone] 117 (0, 0)) := by rw [hW1]; exact heap_alloc_new wr _
        have hs1 : W1.heap.size = wr.heap.size + 1 := by rw [hW1]; simp
        have y0 := blk_cell hb1 0
        simp at y0
        obtain ⟨W2, hW2⟩ : ∃ W2, W2 = txtW W1 key := ⟨_, rfl⟩
        have hf2 : Fr No W1 W2 := by rw [hW2]; exact txt_fr _ _
        have hf12 : Fr No wr W2 := hf1.next hf2 (fun _ _ f => f.elim)
        have hown : ∀ i, (Value.slice A' pre.length c').ownBlock = some i → w.heap.size ≤ i ∧ i < wr.heap.size := fun i hi => I.out.1.own hi
        have hblob := blob_own (B := w.heap.size) (c2 := txtC W1 key) (I.out.1.fr0 hf12) (Nat.le_trans I.out.2.size hf12.size) rfl (by omega) (show Rd Ty.u8 W2 (fun i => W1.heap.size ≤ i) (some ⟨wr.heap.size + 1, 0, none⟩) (keyB key) by rw [hW2, ← hs1]; exact txt_rd W1 key (by omega)) (fun i hi e => by have := (hown i e).2; have hi' : W1.heap.size ≤ i := hi; omega) (n := key.size) (by rw [keyB_len]) (by rw [keyB_len]; omega)
        rw [keyB_len] at hblob
        have hz := I.out.2.size
        have HK := Lib.hid (And.intro hblob (And.intro hf12 (And.intro hown (And.intro (hf2.blk hb1 (fun f => f)) (And.intro hsucc (And.intro hpl2 (And.intro hk1' (And.intro hk2' (And.intro hrow (And.intro hcr (And.intro hs1 hz)))))))))))
        clear hblob hf12 hf1 hf2 hown hb1 hsucc hpl2 hpre hrow hcr hs1 hz
        have kc := run_txt
        have hk2i : (row.length : Int) ≤ 4000 := by omega
        clear hk1' hk2'
        go_wp2_with fail
        rw [← hW1, ← hW2]
        clear hW1 hW2 y0 kc
        refine HK.out.1.mono ?_
        rintro e w4 ⟨A4, c4, rfl, ho4, hf4, hw4⟩
        have hb4 := hf4.blk HK.out.2.2.2.1 (fun e => by have := (HK.out.2.2.1 _ e).2; omega)
        have z1 := blk_cell hb4 1
        have z2 := blk_cell hb4 2
        simp at z1 z2
        have hfw4 : Fr No w w4 := (I.out.2.next HK.out.2.1 (fun _ _ f => f.elim)).next hf4 (fun i hi e => by have := (HK.out.2.2.1 _ e).1; omega)
        have hsz4 : wr.heap.size ≤ w4.heap.size := Nat.le_trans HK.out.2.1.size hf4.size
        have hplen : (pre ++ (beN key.size 2 ++ keyB key)).length ≤ 8010 * k + 4100 := by
          have h1 := HK.out.2.2.2.2.2.1
          have h2 := HK.out.2.2.2.2.2.2.1
          rw [List.length_append, List.length_append, beN_len, keyB_len]; omega
        obtain ⟨pre2, hpre2⟩ : ∃ pre2, pre ++ (beN key.size 2 ++ keyB key) = pre2 := ⟨_, rfl⟩
        rw [hpre2] at ho4 hplen hw4 ⊢
        have hne4 : ∀ i, (Value.slice A4 pre2.length c4).ownBlock = some i → w.heap.size ≤ i ∧ i ≠ wr.heap.size := fun i hi => ⟨(ho4.own hi).1, fun e => by rcases hw4 i hi with h | h; have := (HK.out.2.2.1 _ h).2; omega; have h2 := HK.out.2.2.2.1; have h3 := blk_lt h2; omega⟩
        have hrow4 : Rd Ty.u8 w4 (fun i => i < w.heap.size) D row := HK.out.2.2.2.2.2.2.2.2.1.stab fun i hi hl => ((HK.out.2.1.mono (G := fun i => w.heap.size ≤ i) (fun _ _ f => f.elim)).next hf4 (fun i hi e => (HK.out.2.2.1 _ e).1)).block i hl (fun h => by omega)
        have HP2 := Lib.hid (And.intro ho4 (And.intro hfw4 (And.intro hsz4 (And.intro hplen (And.intro hpre2 (And.intro hrow4 (And.intro hb4 hne4)))))))
        clear hw4 hne4 hb4 hf4 hfw4 hsz4 hplen hpre2 ho4 hrow4
        cases gone with
        | true =>
          obtain ⟨W5, hW5⟩ : ∃ W5, W5 = w4.alloc (.cells #[.int .u8 1] 5) := ⟨_, rfl⟩
          have hf5 : Fr No w4 W5 := by rw [hW5]; exact (Fr.refl No w4).alloc _
          have hA5 : At W5 (some ⟨w4.heap.size, 0, none⟩) [.int .u8 (((1 : UInt8).toNat : Nat) : Int)] := by rw [hW5]; exact At.block (heap_alloc_new w4 _)
          have hpl5 := HP2.out.2.2.2.1
          obtain ⟨A6, c6, w6, hrun, hO6, hg6, _⟩ := run_ow_append (P := Tryz.prog) (ty := 46) (ty' := 46) Ty.u8 (HP2.out.1.fr0 hf5) (.int .u8 0) 1 Tryz.underlying46 info_u8 rfl (by decide) (by decide) 1 (ys := [1]) (row_u8b _ _ 1) hA5 (by simp only [List.length_singleton]; omega)
          have hend : pre2 ++ [1] = hd ++ (ws.take (k + 1)).flatMap wrB := by rw [← HP2.out.2.2.2.2.1, ← HK.out.2.2.2.2.1]; unfold wrB; simp
          have hlen : pre2.length + ([1] : Bs).length = (hd ++ (ws.take (k + 1)).flatMap wrB).length := by rw [← hend, List.length_append]
          rw [hlen] at hrun hO6
          rw [hend] at hO6
          obtain ⟨nxt, hnx⟩ : ∃ nxt, hd ++ (ws.take (k + 1)).flatMap wrB = nxt := ⟨_, rfl⟩
          rw [hnx] at hrun hO6
          have HX := Lib.hid hnx
          have hz6 := Nat.le_trans HP2.out.2.1.size hf5.size
          have HH := Lib.hid (And.intro (hO6.mono (G := fun i => w.heap.size ≤ i) fun i hi _ => by rcases hi with hi | hi <;> omega) ((HP2.out.2.1.next hf5 (fun _ _ f => f.elim)).grown hg6 fun k hk => .inr (HP2.out.1.own hk).1))
          clear hf5 hA5 hpl5 hO6 hg6 hend hlen hz6 hnx
          simp only [List.length_singleton] at hrun
          go_wp2_with (at_builtin; rw [← hW5]; refine wpList_plain rfl fun K hK => wp_append_run _ _ _ _ rfl rfl rfl hrun (hK _ _ ?_))
          go_roundw
          case rel => exact ⟨k + 1, A6, c6, by omega, by go_num, by rw [HX.out], by rw [HX.out]; exact HH.out.1, HH.out.2⟩
          case measure => simp [intOf]; omega
        | false =>
          have hend : pre2 ++ [0] ++ (beN row.length 2 ++ row) = hd ++ (ws.take (k + 1)).flatMap wrB := by rw [← HP2.out.2.2.2.2.1, ← HK.out.2.2.2.2.1]; unfold wrB; simp
          obtain ⟨nxt, hnx⟩ : ∃ nxt, hd ++ (ws.take (k + 1)).flatMap wrB = nxt := ⟨_, rfl⟩
          rw [hnx] at hend
          have HX := Lib.hid (And.intro hnx hend)
          clear hnx hend
          have HB := Lib.hid fun (w5 : World) (A5 : Option Addr) (c5 : Nat) (h : Ow Ty.u8 5 w5 (fun i => w.heap.size ≤ i) (.slice A5 (pre2.length + 1) c5) (pre2 ++ [0])) (hr : Rd Ty.u8 w5 (fun i => i < w.heap.size) D row) (hz : w.heap.size ≤ w5.heap.size) =>
            blob_own (B := w.heap.size) (c2 := cr) h hz (by rw [List.length_append]; rfl) (by have := HP2.out.2.2.2.1; rw [List.length_append]; simp only [List.length_singleton]; omega) hr (fun i hi e => by have := (h.own e).1; have hi' : i < w.heap.size := hi; omega) rfl (by omega)
          rw [HX.out.2] at HB
          have z1a := cell_alloc z1 (.cells #[.int .u8 0] 5)
          go_wp2_with fail
          go_region_law
            (first
              | (refine ow_append_step Ty.u8 (ys := [0]) (F := fun i => w.heap.size ≤ i) (HP2.out.1.fr0 (by repeat (first | exact Fr.refl _ _ | apply Fr.alloc | apply Fr.drew | apply Fr.drewN))) _ _ (.int .u8 0) 1 rfl rfl Tryz.underlying46 info_u8 rfl (by decide) (by decide) rfl rfl rfl (row_u8b _ _ 0) (At.block (heap_alloc_new _ _)) (by have := HP2.out.2.2.2.1; simp only [List.length_singleton]; omega) ?_
                 intro A5 c5 w5 ho5 hg5 hat5
                 have hf5 : Fr (fun i => (Value.slice A4 pre2.length c4).ownBlock = some i) w4 w5 := Fr.grown (by repeat (first | exact Fr.refl _ _ | apply Fr.alloc | apply Fr.drew | apply Fr.drewN)) hg5 fun k hk => .inl hk
                 have z1 := hf5.cell z1 (fun e => (HP2.out.2.2.2.2.2.2.2 _ e).2 rfl)
                 have H5 := Lib.hid (And.intro ho5 hf5)
                 clear ho5 hg5 hat5 hf5)
              | (go_simp; go_at_call 200
                 refine (HB.out _ A5 c5 (H5.out.1.mono fun i hi _ => by have h5 := HP2.out.2.1.size; rcases hi with hi | hi; exact hi; simp at hi; omega) (HP2.out.2.2.2.2.2.1.stab fun i hi hl => H5.out.2.block i hl fun e => by have := (HP2.out.2.2.2.2.2.2.2 _ e).1; have hi' : i < w.heap.size := hi; omega) (Nat.le_trans HP2.out.2.1.size H5.out.2.size)).mono ?_
                 rintro e6 w6 ⟨A6, c6, rfl, ho6, hf6, -⟩
                 have H6 := Lib.hid (And.intro ho6 hf6)
                 clear ho6 hf6))
          all_goals
            go_wp2_with fail
            go_roundw
            case rel => exact ⟨k + 1, A6, c6, by omega, by go_num, by rw [HX.out.1], by rw [HX.out.1]; exact H6.out.1, (HP2.out.2.1.next H5.out.2 (fun i hi e => by have := (HP2.out.2.2.2.2.2.2.2 _ e).1; omega)).next H6.out.2 (fun i hi e => by have := (H5.out.1.own e).1; have h5 := HP2.out.2.1.size; rcases this with h | h; omega; simp at h; omega)⟩
            case measure => simp [intOf]; omega
      · obtain rfl : k = ws.length := by omega
        rw [List.take_length] at I ⊢
        go_wp2_with fail
        go_ret
        exact ⟨A', c', rfl, I.out.1, I.out.2⟩
end Go.Proofs.YtlmhphejgahfbaaGreatDoor
/- 'slices.Sorted(maps.Keys(m))' of a map of writes. -/
set_option linter.unusedVariables false
set_option linter.unusedSimpArgs false
namespace Go.Proofs.YtlmhphejgahfbaaGreatDoor
open Go.RowKit Go.Maps Go.Sort Go.Shelf Go.WideElems Go.WideShapes

set_option maxHeartbeats 1000000 in
/-- maps.Keys, and slices.Sorted of what it handed back. -/
theorem keysW_ok (b : Nat) (l : List (ByteArray × Value)) (ks : List ByteArray) (w : World) (h : MapIs w b l) (hr : Rising ks) (hks : ∀ k, look k l = none ↔ k ∉ ks) (hs : ∀ k ∈ ks, k.size ≤ maxLen) (hl : ks.length ≤ 1000000000) :
    (Calls Tryz.prog 139 #[.map (some b)] w fun e w' => e = .returned (.func (.func 184) #[] #[.pointer (some ⟨w.heap.size, 0, none⟩)]) ∧ w' = w.alloc (.cells #[.map (some b)] 171)) ∧
    Calls Tryz.prog 138 #[.func (.func 184) #[] #[.pointer (some ⟨w.heap.size, 0, none⟩)]] (w.alloc (.cells #[.map (some b)] 171)) fun e w' =>
      ∃ A c, e = .returned (.slice A ks.length c) ∧ Ow Ty.str 9 w' (fun i => w.heap.size ≤ i) (.slice A ks.length c) ks ∧ Fr No w w' := by
  have hp := keys_perm hr h.nodup hks
  have hlen : l.length = ks.length := by simpa using hp.length_eq
  have hsl : ∀ p ∈ l, p.1.size ≤ maxLen := fun p hp' => by
    refine hs p.1 ?_
    rcases Classical.em (p.1 ∈ ks) with hm | hm
    · exact hm
    · exact absurd (List.mem_map.2 ⟨p, hp', rfl⟩) (look_none_iff.1 ((hks p.1).2 hm))
  obtain ⟨D0, hown, hperm, hsz⟩ := h.owns (P := Tryz.prog) Tryz.underlying9 hsl (by unfold maxLen; omega)
  have hbl := hown.lt
  have hmax : Maps.size D0 ≤ maxLen := by rw [hsz]; unfold maxLen; omega
  refine ⟨callsIn_wide.1 (AnyZ.keys_in Tryz.keys139 Fence.wide 5 trivial rfl (some b) w), ?_⟩
  have hseq : SeqGives Fence.wide 2 Tryz.prog 184 #[.pointer (some ⟨w.heap.size, 0, none⟩)] encStr (fun ss => ss.Perm (strKeys D0)) (Maps.size D0) (w.alloc (.cells #[.map (some b)] 171)) :=
    AnyZ.keys_gives (ρ := Tryz.keys139_ren) { Tryz.keys139 with } Fence.wide _ trivial rfl (by omega) w.heap.size b l.length D0 _ (by simp) (by simp) (by
      obtain ⟨es, clock, hb, Ft, hs, hD⟩ := hown
      exact ⟨es, clock, (Below.heap_alloc _ _ b hbl).trans hb, Ft, hs, hD⟩)
  have hsorts : ∀ m, AnyZ.SortsIn Tryz.prog Tryz.sorted138_ren Fence.wide m := fun m =>
    ⟨fun blk off cap ss W hH hblk hsz => callsIn_wide.2 (AnyM.slices_Sort_string Tryz.sort183 blk off cap ss W hH hblk hsz), fun p cap W => callsIn_wide.2 (AnyM.slices_Sort_string_none Tryz.sort183 p cap W)⟩
  have hc := callsIn_wide.1 (AnyZ.sorted_in Tryz.sorted138 Fence.wide 5 trivial trivial trivial trivial rfl (by omega) (hsorts _) (enters_of Tryz.func183 (by kernel_rfl) rfl)
    184 #[.pointer (some ⟨w.heap.size, 0, none⟩)] trivial (enters_of Tryz.func184 (by kernel_rfl) rfl) _ _ hmax (by rw [hsz]; omega) _ hseq)
  refine hc.mono ?_
  rintro e w' ⟨v, ss, rfl, hS, hrow, hnil, hb⟩
  have hS2 : ss.Perm (ks.map fun k => k.data.toList) := (hS.trans hperm).trans hp
  rw [rising_sorted hr hS2] at hrow
  have hsl2 : ss.length = ks.length := by simpa using hS2.length_eq
  rw [hsl2] at hrow
  have hO : Ow Ty.str 9 w' (fun i => w.heap.size ≤ i) v ks := by
    refine ⟨ks.map Value.string, ⟨hrow.1, hrow.2.imp id ?_⟩, ?_, fun k hk => by have := (hrow.lt k hk).1; simp at this; omega⟩
    · rintro ⟨g, cap, cur, h1, h2, h3⟩; exact ⟨g, cap, cur, h1, Nat.zero_le _, h3⟩
    · clear hrow hnil hS2 hp hlen hks hr hs hl hsl2
      induction ks with
      | nil => rfl
      | cons k ks ih => exact ⟨[.string k], ks.map Value.string, rfl, rfl, ih⟩
  obtain ⟨A, c, rfl, _, _⟩ := hO.slice
  exact ⟨A, c, rfl, hO, ((Fr.refl No w).alloc _).trans ((Fr.below hb).mono fun _ _ f => f.elim)⟩
end Go.Proofs.YtlmhphejgahfbaaGreatDoor
