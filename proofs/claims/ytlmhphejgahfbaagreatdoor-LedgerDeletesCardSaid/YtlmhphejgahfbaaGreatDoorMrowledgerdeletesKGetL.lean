/- Layer 15 (ledger): CheckKey, keyed, Get, Delete. -/
import Derived.Test.YtlmhphejgahfbaaGreatDoorMrowledgerdeletes23
import Derived.Test.YtlmhphejgahfbaaGreatDoorMrowledgerdeletesKUnp
import Derived.Test.YtlmhphejgahfbaaGreatDoorMrowledgerdeletes40
import Derived.Test.YtlmhphejgahfbaaGreatDoorMrowledgerdeletes40
import Derived.Test.YtlmhphejgahfbaaGreatDoorMrowledgerdeletes19
import Derived.Test.YtlmhphejgahfbaaGreatDoorMrowledgerdeletes34
set_option linter.unusedVariables false
set_option linter.unusedSimpArgs false
namespace Go.Proofs.YtlmhphejgahfbaaGreatDoor
open Go.RowKit

/-- A key that a table takes. -/
structure KeyFits (tabs : List Tab) (t k : Nat) (key : List Val) : Prop where
  lt : t < tabs.length
  few : tabs.length ≤ 4
  keys : (tabs[t]'lt).2.2 = (k : Int)
  len : key.length = k
  kle : k ≤ (tabs[t]'lt).2.1.length
  le8 : k ≤ 8
  fits : ∀ i (h : i < key.length) (h' : i < (tabs[t]'lt).2.1.length), valFits (tabs[t]'lt).2.1[i] key[i]
  good : ∀ v ∈ key, GoodV v
theorem RowFits.key {tabs : List Tab} {t k : Nat} {row : List Val} (h : RowFits tabs t k row) : KeyFits tabs t k (row.take k) where
  lt := h.lt
  few := h.few
  keys := h.keys
  len := by rw [List.length_take]; have := h.kle; omega
  kle := by rw [← h.len]; exact h.kle
  le8 := Nat.le_trans h.kle h.le8
  fits := fun i h1 h2 => by
    have h3 : i < row.length := by rw [List.length_take] at h1; omega
    rw [List.getElem_take]
    exact h.fits i h3 h2
  good := fun v hv => h.good v (List.mem_of_mem_take hv)
set_option maxHeartbeats 1000000 in
set_option maxRecDepth 100000 in
theorem checkkey_ok {w : World} {F G : Nat → Prop} {A B : Option Addr} {m c n c' t k : Nat} {l : List Tab} {key : List Val} (hK : KeyFits l t k key) (h : Rd tTab w F A l) (hm : m = l.length) (hr : Rd tVal w G B key) (hn : n = key.length) :
    Calls Tryz.prog 64 #[.slice A m c, .int .i64 (t : Int), .slice B n c'] w fun e w' => e = .returned (.int .i64 0) ∧ Fr No w w' := by
  obtain ⟨ad, R, c1, rfl, x0, x1, x2, hc1, hR⟩ := tab_at h hK.lt
  rw [hK.keys] at x2
  have hkl := hK.kle
  have hfits := hK.fits
  have hlen := hK.len
  have hlt := hK.lt
  have hfew := hK.few
  clear x0
  generalize (l[t]'hK.lt).2.1 = cols at *
  have hh := has_ok (w := w) (A := some ad) (m := m) (c := c) (t := t) (by omega) (by omega)
  obtain ⟨R', hsl, hrd⟩ := cut_hi (P := Tryz.prog) tCol 52 91 .i64 Tryz.underlying52 (by kernel_rfl) R cols.length c1 k hkl hc1
  have hrd' := hrd w F cols rfl hR
  have hck := fun (w1 : World) (f : Fr No w w1) => check_ok (c := c1) (c' := c') (m := k) (n := n) (hrd'.fr0 f) (hr.fr0 f) (by rw [List.length_take]; omega) hn (by rw [List.length_take]; omega) (fun i h1 h2 => by
    have h3 : i < cols.length := by rw [List.length_take] at h2; omega
    rw [List.getElem_take]
    exact hfits i h1 h3)
  have ht0 : (0 : Int) ≤ (t : Int) := Int.natCast_nonneg _
  have ht1 : (t : Int) < (m : Int) := by omega
  have H := Lib.hid (And.intro hh (And.intro hck (Fr.refl No w)))
  obtain ⟨nc, hnc⟩ : ∃ nc, cols.length = nc := ⟨_, rfl⟩
  rw [hnc] at x1 hkl hsl hc1
  clear h hr hR hh hck hrd hrd' hfits hlen hnc hK hm hn hlt hfew
  go_enter Tryz.func64, Tryz.ntmps64
  go_wp2_with fail
  refine H.out.1.mono ?_
  rintro e w ⟨rfl, rfl⟩
  go_wp2_with fail
  refine wp_region_tail 13 (fun w' => w'.cell? ⟨(ad.add (t * 3)).block, (ad.add (t * 3)).off + 1, none⟩ = some (.slice R nc c1) ∧ w'.cell? ⟨(ad.add (t * 3)).block, (ad.add (t * 3)).off + 2, none⟩ = some (.int .i64 (k : Int))) (by kernel_rfl) (by exact ⟨x1, x2⟩) (fun hHeld => ?_)
  refine WalkTail.take (i := 0) (v := ?v0) rfl (by kernel_rfl) (fun _ _ _ h => h) (Or.inl ⟨by rfl, ?hy0⟩) (by assumption) ?_
  case hy0 => (intro w hSw; (try dsimp only at hSw); go_simp; try with_reducible rfl)
  (try simp only [Act.put, List.setIfInBounds_toArray, List.set_cons_zero, List.set_cons_succ])
  refine WalkTail.take (i := 1) (v := ?v1) rfl (by kernel_rfl) (fun _ _ _ h => h) (Or.inl ⟨by rfl, ?hy1⟩) (by assumption) ?_
  case hy1 => (intro w hSw; (try dsimp only at hSw); go_simp; try with_reducible rfl)
  (try simp only [Act.put, List.setIfInBounds_toArray, List.set_cons_zero, List.set_cons_succ])
  refine WalkTail.take (i := 2) (v := ?v2) rfl (by kernel_rfl) (fun _ _ _ h => h) (Or.inl ⟨by rfl, ?hy2⟩) (by assumption) ?_
  case hy2 => (intro w hSw; (try dsimp only at hSw); go_simp; try with_reducible rfl)
  (try simp only [Act.put, List.setIfInBounds_toArray, List.set_cons_zero, List.set_cons_succ])
  refine WalkTail.take (i := 3) (v := ?v3) rfl (by kernel_rfl) (fun _ _ _ h => h) (Or.inl ⟨by rfl, ?hy3⟩) (by assumption) ?_
  case hy3 => (intro w hSw; (try dsimp only at hSw); go_simp; try with_reducible rfl)
  (try simp only [Act.put, List.setIfInBounds_toArray, List.set_cons_zero, List.set_cons_succ])
  refine WalkTail.take (i := 4) (v := ?v4) rfl (by kernel_rfl) (fun _ _ _ h => h) (Or.inl ⟨by rfl, ?hy4⟩) (by assumption) ?_
  case hy4 => (intro w hSw; (try dsimp only at hSw); go_simp; try with_reducible rfl)
  (try simp only [Act.put, List.setIfInBounds_toArray, List.set_cons_zero, List.set_cons_succ])
  refine WalkTail.take (i := 5) (v := ?v5) rfl (by kernel_rfl) (fun _ _ _ h => h) (Or.inl ⟨by rfl, ?hy5⟩) (by assumption) ?_
  case hy5 => (intro w hSw; (try dsimp only at hSw); go_simp; try with_reducible rfl)
  (try simp only [Act.put, List.setIfInBounds_toArray, List.set_cons_zero, List.set_cons_succ])
  refine WalkTail.take (i := 6) (v := ?v6) rfl (by kernel_rfl) (fun _ _ _ h => h) (Or.inl ⟨by rfl, ?hy6⟩) (by assumption) ?_
  case hy6 => (intro w hSw; (try dsimp only at hSw); go_simp; try with_reducible rfl)
  (try simp only [Act.put, List.setIfInBounds_toArray, List.set_cons_zero, List.set_cons_succ])
  refine WalkTail.take (i := 7) (v := ?v7) rfl (by kernel_rfl) (fun _ _ _ h => h) (Or.inl ⟨by rfl, ?hy7⟩) (by assumption) ?_
  case hy7 => (intro w hSw; (try dsimp only at hSw); go_simp; try with_reducible rfl)
  (try simp only [Act.put, List.setIfInBounds_toArray, List.set_cons_zero, List.set_cons_succ])
  refine WalkTail.take (i := 8) (v := ?v8) rfl (by kernel_rfl) (fun _ _ _ h => h) (Or.inl ⟨by rfl, ?hy8⟩) (by assumption) ?_
  case hy8 => (intro w hSw; (try dsimp only at hSw); go_simp; try with_reducible rfl)
  (try simp only [Act.put, List.setIfInBounds_toArray, List.set_cons_zero, List.set_cons_succ])
  refine WalkTail.take (i := 9) (v := ?v9) rfl (by kernel_rfl) (fun _ _ _ h => h) (Or.inl ⟨by rfl, ?hy9⟩) (by assumption) ?_
  case hy9 => (intro w hSw; (try dsimp only at hSw); go_simp; try with_reducible rfl)
  (try simp only [Act.put, List.setIfInBounds_toArray, List.set_cons_zero, List.set_cons_succ])
  refine WalkTail.take (i := 10) (v := ?v10) rfl (by kernel_rfl) (fun _ _ _ h => h) (Or.inl ⟨by rfl, ?hy10⟩) (by assumption) ?_
  case hy10 => (intro w hSw; (try dsimp only at hSw); go_simp; try with_reducible rfl)
  (try simp only [Act.put, List.setIfInBounds_toArray, List.set_cons_zero, List.set_cons_succ])
  refine WalkTail.take (i := 11) (v := ?v11) rfl (by kernel_rfl) (fun _ _ _ h => h) (Or.inl ⟨by rfl, ?hy11⟩) (by assumption) ?_
  case hy11 => (intro w hSw; (try dsimp only at hSw); go_simp; try with_reducible rfl)
  (try simp only [Act.put, List.setIfInBounds_toArray, List.set_cons_zero, List.set_cons_succ])
  refine WalkTail.one (i := 12) rfl (by kernel_rfl) (by decide) (fun K hK => ?_)
  go_simp
  go_at_call 98
  refine (H.out.2.1 _ (by repeat (first | exact H.out.2.2 | apply Fr.drew | apply Fr.drewN))).mono ?_
  rintro e w1 ⟨rfl, hf1⟩
  have hg1 : Fr No w w1 := Fr.next (G := No) (by repeat (first | exact H.out.2.2 | apply Fr.drew | apply Fr.drewN)) hf1 (fun _ _ f => f.elim)
  have x1' := hg1.cell x1 (fun f => f)
  have x2' := hg1.cell x2 (fun f => f)
  have H1 := Lib.hid hg1
  clear hf1 hg1
  go_wp2_with fail
  refine hK.out _ _ ?_ (fun hHeld => ?_)
  · exact ⟨x1', x2'⟩
  clear hK K
  (try simp only [Act.put, List.setIfInBounds_toArray, List.set_cons_zero, List.set_cons_succ])
  refine WalkTail.last rfl (by kernel_rfl) (by kernel_rfl) (fun K hK => ?_)
  go_simp
  refine hK.out _ _ ?_
  clear hK K
  go_wp2_with fail
  go_ret
  exact ⟨rfl, H1.out⟩
set_option maxHeartbeats 1000000 in
set_option maxRecDepth 100000 in
theorem led_keyed {w : World} {col : Nat → Nat} {lb : Nat} {L : Led} {id : Int} {xb t k n c' : Nat} {R : Nat → Prop} {B : Option Addr} {key : List Val} {A : Option Addr} {c sb mb : Nat} {vst : Value} {l : List (Int × Value)} (hP : LedP w col lb L A c sb mb vst l) (hlook : lookI id l = some (.pointer (some ⟨xb, 0, none⟩))) (hKF : KeyFits L.tabs t k key) (hr : Rd tVal w R B key) (hn : n = key.length) :
    Calls Tryz.prog 58 #[.pointer (some ⟨lb, 0, none⟩), .int .i64 id, .int .i64 (t : Int), .slice B n c'] w fun e w' =>
      e = .returned (.tuple #[.pointer (some ⟨xb, 0, none⟩), .string (keyS t key), .int .i64 0]) ∧ Fr No w w' := by
  have hof := led_of id (some ⟨xb, 0, none⟩) hP.blk hP.map hlook
  have hck := checkkey_ok (c := c) (c' := c') hKF hP.tabs rfl hr hn
  have hky := fun (w1 : World) (f : Fr No w w1) => tkey_ok (c := c') (t := t) (n := n) (by have h1 := hKF.lt; have h2 := hKF.few; omega) (hr.fr0 f) hn (by rw [hKF.len]; exact hKF.le8) (fun v hv => (hKF.good v hv).1.1) (fun v hv => (hKF.good v hv).2.1)
  have c0 := blk_cell hP.blk 0
  simp at c0
  have H := Lib.hid (And.intro hof (And.intro hck hky))
  clear hof hck hky hP hlook hKF hr hn
  obtain ⟨nt, hnt⟩ : ∃ nt, L.tabs.length = nt := ⟨_, rfl⟩
  rw [hnt] at c0 H
  clear hnt
  obtain ⟨ks, hks⟩ : ∃ ks, keyS t key = ks := ⟨_, rfl⟩
  rw [hks] at H ⊢
  clear hks
  go_enter Tryz.func58, Tryz.ntmps58
  go_wp2_with fail
  refine H.out.1.mono ?_
  rintro e w ⟨rfl, rfl⟩
  go_wp2_with fail
  refine H.out.2.1.mono ?_
  rintro e w1 ⟨rfl, hf1⟩
  have H1 := Lib.hid hf1
  clear hf1
  go_wp2_with fail
  refine (H.out.2.2 _ H1.out).mono ?_
  rintro e w2 ⟨rfl, hf2⟩
  have H2 := Lib.hid (H1.out.next hf2 (fun _ _ f => f.elim))
  clear hf2
  go_wp2_with fail
  go_ret3
  exact ⟨rfl, H2.out⟩
/-- What a transaction sees of a key. -/
def Led.sees (L : Led) (x : LTx) (k : ByteArray) : Option Bs :=
  match wfind k x.ws with
  | some y => if y.gone = true then none else some y.row
  | none => L.s.get x.base k
theorem led_txget {w w1 : World} {col : Nat → Nat} {lb : Nat} {L : Led} {m : Nat} {id : Int} {x : LTx} {xb : Nat} {A : Option Addr} {c sb mb : Nat} {vst : Value} {l : List (Int × Value)} (hP : LedP w col lb L A c sb mb vst l) (hok : L.Ok m) (hm : m ≤ 4000) (hx : L.find id = some x) (hT : TxAt w (fun i => col i = txCol id) xb x.base x.ws) (k : ByteArray) (f : Fr No w w1) :
    Calls Tryz.prog 59 #[.pointer (some ⟨xb, 0, none⟩), .pointer (some ⟨sb, 0, none⟩), .string k] w1 fun e w' => ∃ A1 c1 n1, e = .returned (.tuple #[.slice A1 n1 c1, .bool (L.sees x k).isSome]) ∧ Fr No w1 w' ∧ ∀ p, L.sees x k = some p → n1 = p.length ∧ n1 ≤ c1 ∧ Rd Ty.u8 w' (fun i => w1.heap.size ≤ i) A1 p := by
  cases hf : wfind k x.ws with
  | some y =>
    have hy : y ∈ x.ws := (wfind_some hf).1
    have hwy := (hok.ws x (find_id hx).2).2 y hy
    refine (tx_get_own (s := some ⟨sb, 0, none⟩) k (hT.fr0 f) hf (by omega)).mono ?_
    rintro e w' ⟨A1, c1, rfl, ho, hf'⟩
    have hs : L.sees x k = if y.gone = true then none else some y.row := by unfold Led.sees; rw [hf]
    rw [hs]
    cases hg : y.gone with
    | true => exact ⟨A1, c1, _, rfl, hf', fun p hp => by cases hp⟩
    | false => exact ⟨A1, c1, _, rfl, hf', fun p hp => by
        obtain rfl : y.row = p := Option.some.inj hp
        exact ⟨rfl, ho.rd.2.1, ho.rd.2.2⟩⟩
  | none =>
    have hs : L.sees x k = L.s.get x.base k := by unfold Led.sees; rw [hf]
    refine (tx_get_none (sp := some ⟨sb, 0, none⟩) k (hT.fr0 f) hf (fun w' f' => store_get ((hP.sto.fr0 f).fr0 f') hok.sto (by omega) x.base k)).mono ?_
    rintro e w' ⟨⟨A1, c1, rfl, ho⟩, hf'⟩
    rw [hs]
    refine ⟨A1, c1, _, rfl, hf', fun p hp => ?_⟩
    rw [hp] at ho ⊢
    exact ⟨rfl, ho.rd.2.1, ho.rd.2.2⟩
set_option maxHeartbeats 1000000 in
set_option maxRecDepth 100000 in
theorem led_get_none {w : World} {col : Nat → Nat} {lb : Nat} {L : Led} {m : Nat} {id : Int} {x : LTx} {t k n c' : Nat} {R : Nat → Prop} {B : Option Addr} {key : List Val} (h : LedAt w col lb L) (hok : L.Ok m) (hm : m ≤ 4000) (hx : L.find id = some x) (hKF : KeyFits L.tabs t k key) (hr : Rd tVal w R B key) (hn : n = key.length) (hsee : L.sees x (keyS t key) = none) :
    Calls Tryz.prog 27 #[.pointer (some ⟨lb, 0, none⟩), .int .i64 id, .int .i64 (t : Int), .slice B n c'] w fun e w' => e = .returned (.tuple #[.slice none 0 0, .bool false, .int .i64 0]) ∧ Fr No w w' := by
  obtain ⟨A, c, sb, mb, vst, l, hP⟩ := h
  obtain ⟨xb, hlook, hT⟩ := hP.txs.some_ id x hx
  have hky := led_keyed (c' := c') hP hlook hKF hr hn
  have hget := fun (w1 : World) (f : Fr No w w1) => led_txget hP hok hm hx hT (keyS t key) f
  rw [hsee] at hget
  have c1 := blk_cell hP.blk 1
  simp at c1
  obtain ⟨ks, hks⟩ : ∃ ks, keyS t key = ks := ⟨_, rfl⟩
  rw [hks] at hky hget
  have H := Lib.hid (And.intro hky hget)
  clear hky hget hP hlook hT hKF hr hn hsee hks hx hok
  go_enter Tryz.func27, Tryz.ntmps27
  go_wp2_with fail
  refine H.out.1.mono ?_
  rintro e w1 ⟨rfl, hf1⟩
  have c1' := hf1.cell c1 (fun f => f)
  have H1 := Lib.hid hf1
  clear hf1
  go_wp2_with fail
  refine (H.out.2 _ H1.out).mono ?_
  rintro e w2 ⟨A1, c1, n1, rfl, hf2, _⟩
  have H2 := Lib.hid (H1.out.next hf2 (fun _ _ f => f.elim))
  clear hf2
  go_wp2_with fail
  go_ret3
  exact ⟨rfl, H2.out⟩
set_option maxHeartbeats 1000000 in
set_option maxRecDepth 100000 in
theorem led_get_some {w : World} {col : Nat → Nat} {lb : Nat} {L : Led} {m : Nat} {id : Int} {x : LTx} {t k n c' : Nat} {R : Nat → Prop} {B : Option Addr} {key row : List Val} (h : LedAt w col lb L) (hok : L.Ok m) (hm : m ≤ 4000) (hx : L.find id = some x) (hKF : KeyFits L.tabs t k key) (hr : Rd tVal w R B key) (hn : n = key.length) (hsee : L.sees x (keyS t key) = some (packB row)) (hr8 : row.length ≤ 8) (hdv : ∀ v ∈ row, DecV v) (hpl : (packB row).length ≤ 100000) :
    Calls Tryz.prog 27 #[.pointer (some ⟨lb, 0, none⟩), .int .i64 id, .int .i64 (t : Int), .slice B n c'] w fun e w' => ∃ A1 c1, e = .returned (.tuple #[.slice A1 row.length c1, .bool true, .int .i64 0]) ∧ Ow tVal 35 w' (fun i => w.heap.size ≤ i) (.slice A1 row.length c1) row ∧ Fr No w w' := by
  obtain ⟨A, c, sb, mb, vst, l, hP⟩ := h
  obtain ⟨xb, hlook, hT⟩ := hP.txs.some_ id x hx
  have hky := led_keyed (c' := c') hP hlook hKF hr hn
  have hget := fun (w1 : World) (f : Fr No w w1) => led_txget hP hok hm hx hT (keyS t key) f
  rw [hsee] at hget
  have c1 := blk_cell hP.blk 1
  simp at c1
  obtain ⟨ks, hks⟩ : ∃ ks, keyS t key = ks := ⟨_, rfl⟩
  rw [hks] at hky hget
  obtain ⟨q, hq⟩ : ∃ q, row.length = q := ⟨_, rfl⟩
  have H := Lib.hid (And.intro hky (And.intro hget (And.intro hr8 (And.intro hdv (And.intro hpl hq)))))
  rw [hq]
  clear hky hget hP hlook hT hKF hr hn hsee hks hx hok hr8 hdv hpl hq
  go_enter Tryz.func27, Tryz.ntmps27
  go_wp2_with fail
  refine H.out.1.mono ?_
  rintro e w1 ⟨rfl, hf1⟩
  have c1' := hf1.cell c1 (fun f => f)
  have H1 := Lib.hid hf1
  clear hf1
  go_wp2_with fail
  refine (H.out.2.1 _ H1.out).mono ?_
  rintro e w2 ⟨A1, c1, n1, rfl, hf2, hp⟩
  obtain ⟨p1, p2, p3⟩ := hp _ rfl
  have hun := unpacked_ok p3 p1 p2 H.out.2.2.2.2.1 rfl H.out.2.2.1 H.out.2.2.2.1
  rw [H.out.2.2.2.2.2] at hun
  have H2 := Lib.hid (And.intro hun (H1.out.next hf2 (fun _ _ f => f.elim)))
  clear hf2 hp p1 p2 p3 hun
  go_wp2_with fail
  refine H2.out.1.mono ?_
  rintro e w3 ⟨A3, c3, rfl, ho3, hf3⟩
  have H3 := Lib.hid (And.intro (ho3.mono (G := fun i => w.heap.size ≤ i) fun i hi _ => Nat.le_trans H2.out.2.size hi) (H2.out.2.next hf3 (fun _ _ f => f.elim)))
  clear ho3 hf3
  go_wp2_with fail
  go_ret3
  exact ⟨A3, c3, rfl, H3.out.1, H3.out.2⟩
set_option maxHeartbeats 1000000 in
set_option maxRecDepth 100000 in
theorem led_delete_none {w : World} {col : Nat → Nat} {lb : Nat} {L : Led} {m : Nat} {id : Int} {x : LTx} {t k n c' : Nat} {R : Nat → Prop} {B : Option Addr} {key : List Val} (h : LedAt w col lb L) (hok : L.Ok m) (hm : m ≤ 4000) (hx : L.find id = some x) (hKF : KeyFits L.tabs t k key) (hr : Rd tVal w R B key) (hn : n = key.length) (hsee : L.sees x (keyS t key) = none) :
    Calls Tryz.prog 26 #[.pointer (some ⟨lb, 0, none⟩), .int .i64 id, .int .i64 (t : Int), .slice B n c'] w fun e w' => e = .returned (.int .i64 5) ∧ Fr No w w' := by
  obtain ⟨A, c, sb, mb, vst, l, hP⟩ := h
  obtain ⟨xb, hlook, hT⟩ := hP.txs.some_ id x hx
  have hky := led_keyed (c' := c') hP hlook hKF hr hn
  have hget := fun (w1 : World) (f : Fr No w w1) => led_txget hP hok hm hx hT (keyS t key) f
  rw [hsee] at hget
  have c1 := blk_cell hP.blk 1
  simp at c1
  obtain ⟨ks, hks⟩ : ∃ ks, keyS t key = ks := ⟨_, rfl⟩
  rw [hks] at hky hget
  have H := Lib.hid (And.intro hky hget)
  clear hky hget hP hlook hT hKF hr hn hsee hks hx hok
  go_enter Tryz.func26, Tryz.ntmps26
  go_wp2_with fail
  refine H.out.1.mono ?_
  rintro e w1 ⟨rfl, hf1⟩
  have c1' := hf1.cell c1 (fun f => f)
  have H1 := Lib.hid hf1
  clear hf1
  go_wp2_with fail
  refine (H.out.2 _ H1.out).mono ?_
  rintro e w2 ⟨A1, c1, n1, rfl, hf2, _⟩
  have H2 := Lib.hid (H1.out.next hf2 (fun _ _ f => f.elim))
  clear hf2
  go_wp2_with fail
  go_ret
  exact ⟨rfl, H2.out⟩
set_option maxHeartbeats 1000000 in
set_option maxRecDepth 100000 in
theorem led_delete_some {w : World} {col : Nat → Nat} {lb : Nat} {L : Led} {m : Nat} {id : Int} {x : LTx} {t k n c' : Nat} {R : Nat → Prop} {B : Option Addr} {key : List Val} {p : Bs} (h : LedAt w col lb L) (hok : L.Ok m) (hm : m ≤ 4000) (hx : L.find id = some x) (hKF : KeyFits L.tabs t k key) (hr : Rd tVal w R B key) (hn : n = key.length) (hsee : L.sees x (keyS t key) = some p) :
    Calls Tryz.prog 26 #[.pointer (some ⟨lb, 0, none⟩), .int .i64 id, .int .i64 (t : Int), .slice B n c'] w fun e w' =>
      e = .returned (.int .i64 (wwrite x.ws ⟨keyS t key, [], true⟩).2) ∧ (∃ col', (∀ i, i < w.heap.size → col' i = col i) ∧ LedAt w' col' lb (L.setTx id (wwrite x.ws ⟨keyS t key, [], true⟩).1)) ∧ Fr (fun i => col i = txCol id) w w' := by
  obtain ⟨A, c, sb, mb, vst, l, hP⟩ := h
  obtain ⟨xb, hlook, hT⟩ := hP.txs.some_ id x hx
  have hky := led_keyed (c' := c') hP hlook hKF hr hn
  have hget := fun (w1 : World) (f : Fr No w w1) => led_txget hP hok hm hx hT (keyS t key) f
  rw [hsee] at hget
  have hdel := fun (w1 : World) (f : Fr No w w1) => tx_del (keyS t key) (hT.fr0 f) ((hok.ws x (find_id hx).2).1)
  have c1 := blk_cell hP.blk 1
  simp at c1
  obtain ⟨ks, hks⟩ : ∃ ks, keyS t key = ks := ⟨_, rfl⟩
  rw [hks] at hky hget hdel ⊢
  have H := Lib.hid (And.intro hky (And.intro hget hdel))
  have HP := Lib.hid (And.intro hP (And.intro (show ∀ y ∈ L.txs, 0 ≤ y.id from fun y hy => by have := (hok.ids y hy).1; omega) (And.intro hx hlook)))
  clear hky hget hdel hP hlook hT hKF hr hn hsee hks hx hok
  go_enter Tryz.func26, Tryz.ntmps26
  go_wp2_with fail
  refine H.out.1.mono ?_
  rintro e w1 ⟨rfl, hf1⟩
  have c1' := hf1.cell c1 (fun f => f)
  have H1 := Lib.hid hf1
  clear hf1
  go_wp2_with fail
  refine (H.out.2.1 _ H1.out).mono ?_
  rintro e w2 ⟨A1, c1, n1, rfl, hf2, _⟩
  have H2 := Lib.hid (H1.out.next hf2 (fun _ _ f => f.elim))
  clear hf2
  go_wp2_with fail
  refine (H.out.2.2 _ H2.out).mono ?_
  rintro e w4 ⟨rfl, hT4, hf4⟩
  have hff : Fr (fun i => col i = txCol id) w w4 := (H2.out.mono fun _ _ f => f.elim).trans (hf4.mono fun i _ hi => .inl hi)
  have H4 := Lib.hid (And.intro (hT4.mono (F' := fun i => col i = txCol id ∨ w.heap.size ≤ i) fun i hi _ => .inl hi) hff)
  clear hT4 hf4 hff
  go_wp2_with fail
  go_ret
  exact ⟨rfl, ⟨_, fun i hi => ext_old col hi, _, _, _, _, _, _, HP.out.1.setTx HP.out.2.1 HP.out.2.2.1 HP.out.2.2.2 H4.out.1 H4.out.2⟩, H4.out.2⟩
section
variable {w w' : World} {lb : Nat} {L : Led} {m : Nat} {KS : Nat → Prop} {id : Int} {x : LTx} {t k n c' : Nat} {R : Nat → Prop} {B : Option Addr} {key row : List Val}
theorem ledS_get_none (h : LedS KS w w' lb L) (hok : L.Ok m) (hm : m ≤ 4000) (hx : L.find id = some x) (hKF : KeyFits L.tabs t k key) (hr : Rd tVal w' R B key) (hn : n = key.length) (hsee : L.sees x (keyS t key) = none) :
    Calls Tryz.prog 27 #[.pointer (some ⟨lb, 0, none⟩), .int .i64 id, .int .i64 (t : Int), .slice B n c'] w' fun e w'' => e = .returned (.tuple #[.slice none 0 0, .bool false, .int .i64 0]) ∧ Fr No w' w'' := by
  obtain ⟨col, h1, h2, h5, h4⟩ := h
  exact led_get_none h1 hok hm hx hKF hr hn hsee
theorem ledS_get_some (h : LedS KS w w' lb L) (hok : L.Ok m) (hm : m ≤ 4000) (hx : L.find id = some x) (hKF : KeyFits L.tabs t k key) (hr : Rd tVal w' R B key) (hn : n = key.length) (hsee : L.sees x (keyS t key) = some (packB row)) (hr8 : row.length ≤ 8) (hdv : ∀ v ∈ row, DecV v) (hpl : (packB row).length ≤ 100000) :
    Calls Tryz.prog 27 #[.pointer (some ⟨lb, 0, none⟩), .int .i64 id, .int .i64 (t : Int), .slice B n c'] w' fun e w'' => ∃ A1 c1, e = .returned (.tuple #[.slice A1 row.length c1, .bool true, .int .i64 0]) ∧ Ow tVal 35 w'' (fun i => w'.heap.size ≤ i) (.slice A1 row.length c1) row ∧ Fr No w' w'' := by
  obtain ⟨col, h1, h2, h5, h4⟩ := h
  exact led_get_some h1 hok hm hx hKF hr hn hsee hr8 hdv hpl
theorem ledS_delete_none (h : LedS KS w w' lb L) (hok : L.Ok m) (hm : m ≤ 4000) (hx : L.find id = some x) (hKF : KeyFits L.tabs t k key) (hr : Rd tVal w' R B key) (hn : n = key.length) (hsee : L.sees x (keyS t key) = none) :
    Calls Tryz.prog 26 #[.pointer (some ⟨lb, 0, none⟩), .int .i64 id, .int .i64 (t : Int), .slice B n c'] w' fun e w'' => e = .returned (.int .i64 5) ∧ Fr No w' w'' := by
  obtain ⟨col, h1, h2, h5, h4⟩ := h
  exact led_delete_none h1 hok hm hx hKF hr hn hsee
theorem ledS_delete_some {p : Bs} (h : LedS KS w w' lb L) (hok : L.Ok m) (hm : m ≤ 4000) (hx : L.find id = some x) (hKF : KeyFits L.tabs t k key) (hr : Rd tVal w' R B key) (hn : n = key.length) (hsee : L.sees x (keyS t key) = some p) :
    Calls Tryz.prog 26 #[.pointer (some ⟨lb, 0, none⟩), .int .i64 id, .int .i64 (t : Int), .slice B n c'] w' fun e w'' =>
      e = .returned (.int .i64 (wwrite x.ws ⟨keyS t key, [], true⟩).2) ∧ LedS KS w w'' lb (L.setTx id (wwrite x.ws ⟨keyS t key, [], true⟩).1) ∧ Fr (Mine KS w) w' w'' := by
  obtain ⟨col, h1, h2, h5, h4⟩ := h
  refine (led_delete_some h1 hok hm hx hKF hr hn hsee).mono ?_
  rintro e w'' ⟨rfl, ⟨col', hk, hL'⟩, hf'⟩
  exact ⟨rfl, ledS_next h2 h5 h4 hk hL' (fun i hi => by have h6 := txCol_ge id; unfold MutC; omega) hf'⟩
end
end Go.Proofs.YtlmhphejgahfbaaGreatDoor
