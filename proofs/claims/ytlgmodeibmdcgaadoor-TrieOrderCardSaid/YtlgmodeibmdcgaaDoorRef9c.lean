/- Reference 9 (trie): Put. -/
import Derived.Test.YtlgmodeibmdcgaaDoorRef9b
set_option linter.unusedVariables false
set_option linter.unusedSimpArgs false
namespace Go.Proofs.YtlgmodeibmdcgaaDoor
open Go.RowKit

theorem putL_all {l : List Itm} {x : Itm} (r : List Itm) (h : ∀ y ∈ l, kl y.1 x.1 = true) : putL (l ++ r) x = l ++ putL r x := by
  induction l with
  | nil => rfl
  | cons z l ih =>
    rw [List.cons_append, putL_cons, if_pos (h z (by simp)), ih fun y hy => h y (by simp [hy])]
    rfl
theorem putL_past {l : List Itm} {x : Itm} (y : Itm) (h : ∃ z ∈ l, kl z.1 x.1 = false) : putL (l ++ [y]) x = putL l x ++ [y] := by
  induction l with
  | nil => obtain ⟨z, hz, _⟩ := h; cases hz
  | cons z l ih =>
    rw [List.cons_append, putL_cons, putL_cons]
    by_cases hk : kl z.1 x.1 = true
    · rw [if_pos hk, if_pos hk, ih]
      · rfl
      · obtain ⟨u, hu, hf⟩ := h
        rcases List.mem_cons.1 hu with e | e
        · rw [e, hk] at hf; cases hf
        · exact ⟨u, e, hf⟩
    · rw [if_neg hk, if_neg hk]
      split <;> rfl
/-- How far the laying in has come. -/
def PInv (m : List Itm) (x : Itm) (k : Nat) (db : Bool) (out : List Itm) : Prop :=
  (db = false ∧ out = m.take k ∧ ∀ y ∈ m.take k, kl y.1 x.1 = true) ∨ (db = true ∧ out = putL (m.take k) x ∧ ∃ z ∈ m.take k, kl z.1 x.1 = false)
theorem rise_before {m : List Itm} (r : RiseI m) {k : Nat} (hk : k < m.length) : ∀ y ∈ m.take k, kl y.1 m[k].1 = true := by
  intro y hy
  obtain ⟨i, hi, rfl⟩ := List.mem_take_iff_getElem.1 hy
  have := List.pairwise_iff_getElem.1 r i k (by simp; omega) (by simp; omega) (by omega)
  simpa using this
theorem PInv.len {m : List Itm} {x : Itm} {k : Nat} {db : Bool} {out : List Itm} (h : PInv m x k db out) : out.length ≤ m.length + 1 := by
  have hp : ∀ l : List Itm, (putL l x).length ≤ l.length + 1 := by
    intro l
    induction l with
    | nil => simp [putL]
    | cons z l ih =>
      rw [putL_cons]
      split
      · simp; omega
      · split <;> simp
  rcases h with ⟨_, rfl, _⟩ | ⟨_, rfl, _⟩
  · simp; omega
  · have := hp (m.take k)
    rw [List.length_take] at this; omega
theorem PInv.low {m : List Itm} {x : Itm} {k : Nat} {db : Bool} {out : List Itm} (h : PInv m x k db out) (r : RiseI m) (hk : k < m.length) (hl : kl m[k].1 x.1 = true) : db = false ∧ PInv m x (k + 1) false (out ++ [m[k]]) := by
  rcases h with ⟨h1, h2, h3⟩ | ⟨h1, h2, z, hz, hf⟩
  · refine ⟨h1, .inl ⟨rfl, by rw [List.take_succ_eq_append_getElem hk, h2], fun y hy => ?_⟩⟩
    rw [List.take_succ_eq_append_getElem hk] at hy
    rcases List.mem_append.1 hy with e | e
    · exact h3 y e
    · rw [List.mem_singleton.1 e]; exact hl
  · have := kl_trans (rise_before r hk z hz) hl
    rw [this] at hf; cases hf
theorem PInv.same {m : List Itm} {x : Itm} {k : Nat} {db : Bool} {out : List Itm} (h : PInv m x k db out) (r : RiseI m) (hk : k < m.length) (he : m[k].1 = x.1) : db = false ∧ PInv m x (k + 1) true (out ++ [x]) := by
  rcases h with ⟨h1, h2, h3⟩ | ⟨h1, h2, z, hz, hf⟩
  · refine ⟨h1, .inr ⟨rfl, ?_, m[k], ?_, by rw [he]; exact kl_irrefl _⟩⟩
    · rw [List.take_succ_eq_append_getElem hk, putL_all _ h3, putL_cons, if_neg (by rw [he, kl_irrefl]; decide), if_pos he, h2]
    · rw [List.take_succ_eq_append_getElem hk]; exact List.mem_append.2 (.inr (List.mem_singleton.2 rfl))
  · have := rise_before r hk z hz
    rw [he, hf] at this; cases this
theorem PInv.high {m : List Itm} {x : Itm} {k : Nat} {out : List Itm} (h : PInv m x k false out) (r : RiseI m) (hk : k < m.length) (hl : kl m[k].1 x.1 = false) (hne : m[k].1 ≠ x.1) : PInv m x (k + 1) true (out ++ [x] ++ [m[k]]) := by
  rcases h with ⟨h1, h2, h3⟩ | ⟨h1, _⟩
  · refine .inr ⟨rfl, ?_, m[k], ?_, hl⟩
    · rw [List.take_succ_eq_append_getElem hk, putL_all _ h3, putL_cons, if_neg (by rw [hl]; decide), if_neg hne, h2]; simp
    · rw [List.take_succ_eq_append_getElem hk]; exact List.mem_append.2 (.inr (List.mem_singleton.2 rfl))
  · cases h1
theorem PInv.past {m : List Itm} {x : Itm} {k : Nat} {out : List Itm} (h : PInv m x k true out) (hk : k < m.length) : PInv m x (k + 1) true (out ++ [m[k]]) := by
  rcases h with ⟨h1, _⟩ | ⟨h1, h2, z, hz, hf⟩
  · cases h1
  · refine .inr ⟨rfl, by rw [List.take_succ_eq_append_getElem hk, putL_past _ ⟨z, hz, hf⟩, h2], z, ?_, hf⟩
    rw [List.take_succ_eq_append_getElem hk]; exact List.mem_append.2 (.inl hz)
theorem PInv.done {m : List Itm} {x : Itm} {db : Bool} {out : List Itm} (h : PInv m x m.length db out) : putL m x = if db then out else out ++ [x] := by
  rcases h with ⟨rfl, h2, h3⟩ | ⟨rfl, h2, _⟩
  · rw [List.take_length] at h2 h3
    have := putL_all [] h3
    rw [List.append_nil] at this
    rw [this, h2]; rfl
  · rw [List.take_length] at h2; rw [h2]; rfl

theorem Rd.mono_own {B N : Nat} {w : World} {v : Value} {R : Option Addr} {p : Bs} {x : Itm} {key : ByteArray} (h : Rd Ty.u8 w (fun i => N ≤ i) R p) (hx : x = (key, p)) (hB : B ≤ N) (hv : ∀ i, v.ownBlock = some i → i < N) : Rd Ty.u8 w (fun i => B ≤ i ∧ v.ownBlock ≠ some i) R x.2 := by
  rw [hx]
  exact h.mono fun i hi _ => ⟨Nat.le_trans hB hi, fun e => by have := hv i e; omega⟩
theorem old_cell {w w' : World} {a : Addr} {v : Value} (f : Fr (fun i => w.heap.size ≤ i) w w') (h : w.cell? a = some v) : w'.cell? a = some v :=
  f.cell h (fun e => by have := World.block_lt_of_cell? w a h; omega)
theorem fr_old {w w' : World} (hf : Fr (fun i => w.heap.size ≤ i) w w') : Fr No w w' := ⟨hf.os, hf.tape, hf.output, hf.size, fun i hi _ => hf.block i hi (by omega)⟩

set_option maxHeartbeats 4000000 in
set_option maxRecDepth 100000 in
theorem ref_put {B : Nat} {w : World} {F : Nat → Prop} {A D : Option Addr} {c d : Nat} {m : List Itm} {row : Bs} (key : ByteArray) (h : RdI B w A m) (hrow : Rd Ty.u8 w F D row) (hr : row.length ≤ 100000) (hm : m.length ≤ 1000) (hB : B ≤ w.heap.size) (ri : RiseI m) :
    Calls Tryd.prog 35 #[.slice A m.length c, .string key, .slice D row.length d] w fun e w' => ∃ A1 c1, e = .returned (.slice A1 (putL m (key, row)).length c1) ∧ Its B w.heap.size w' (.slice A1 (putL m (key, row)).length c1) (putL m (key, row)) ∧ Fr No w w' := by
  have hml : (m.length : Int) ≤ 1000 := by omega
  have hj := fun (wr : World) (f : Fr No w wr) => ref_join (c := d) (d := 0) (hrow.fr0 f) (Rd.nil (F := F) (A := none)) (by simp; omega)
  simp only [List.append_nil, List.length_nil] at hj
  have H := Lib.hid (And.intro h (And.intro (show Rd tItm w (fun i => B ≤ i ∧ i < w.heap.size) A m from h.mono fun i a b => ⟨a, b⟩) (And.intro hm (And.intro hB (And.intro ri hj)))))
  clear h hm hB ri hj hrow hr
  obtain ⟨x, hx⟩ : ∃ x : Itm, x = (key, row) := ⟨_, rfl⟩
  obtain ⟨rl, hrl⟩ : ∃ rl, row.length = rl := ⟨_, rfl⟩
  have HX := Lib.hid (And.intro hx hrl)
  rw [← hx]
  obtain ⟨g, hg⟩ : ∃ g, putL m x = g := ⟨_, rfl⟩
  rw [hg]
  have HG := Lib.hid hg
  clear hg
  rw [hrl] at H ⊢
  clear hx hrl
  go_enter Tryd.func35, Tryd.ntmps35
  go_wp2_with fail
  go_loopw [7, 8, 9] (fun v b i wr => ∃ (k n : Nat) (A1 : Option Addr) (c1 : Nat) (db : Bool), k ≤ m.length ∧ i = .int .i64 (k : Int) ∧ v = .slice A1 n c1 ∧ b = .bool db ∧ Hid (∃ out, n = out.length ∧ PInv m x k db out ∧ Its B w.heap.size wr (.slice A1 n c1) out ∧ Fr (fun i => w.heap.size ≤ i) w wr)) (fun _ _ i _ => m.length - (intOf i).toNat)
  case atStart => exact ⟨0, 0, none, 0, false, Nat.zero_le _, rfl, rfl, rfl, [], rfl, .inl ⟨rfl, rfl, fun y hy => by simp at hy⟩, Its.nil, Fr.refl _ _⟩
  case round =>
    obtain ⟨k, n, A1, c1, db, hk, rfl, rfl, rfl, I⟩ := hrel
    obtain ⟨out, hn, hP, hI, hf⟩ := I.out
    clear I
    have hf' : Fr No w wr := ⟨hf.os, hf.tape, hf.output, hf.size, fun i hi _ => hf.block i hi (by omega)⟩
    have hk0 : (0 : Int) ≤ (k : Int) := Int.natCast_nonneg _
    have hol := hP.len
    by_cases hlt : k < m.length
    · have hk1 : (k : Int) < (m.length : Int) := by omega
      obtain ⟨ad, R, cx, rfl, x0, x1, hcx, hxr⟩ := itm_at (H.out.1.fr0 hf') hlt
      have hx2 : Rd Ty.u8 w (fun i => B ≤ i ∧ i < w.heap.size) R m[k].2 ∧ w.cell? ⟨(ad.add (k * 2)).block, (ad.add (k * 2)).off + 1, none⟩ = some (.slice R m[k].2.length cx) ∧ w.cell? (ad.add (k * 2)) = some (.string m[k].1) := by
        obtain ⟨ad', cs, e, hkk, h0, h1⟩ := H.out.2.1.get' hlt (by decide)
        obtain ⟨d1, d2, rfl, k1, k2⟩ := hkk
        obtain rfl : d1 = _ := k1
        obtain ⟨R', c', rfl, k3, k4⟩ := k2
        obtain rfl : ad = ad' := by injection e
        have e2 := (hf'.cell (h1 1 _ (by decide) rfl) (fun f => f)).symm.trans x1
        simp at e2
        obtain ⟨rfl, rfl⟩ := e2
        exact ⟨k4, h1 1 _ (by decide) rfl, h0 _ rfl⟩
      have hsz := hf.size
      have hkey : x.1 = key := by rw [HX.out.1]
      have hxl : x.2.length = rl := by rw [HX.out.1]; exact HX.out.2
      obtain ⟨hx2r, hx2c, hx2k⟩ := hx2
      by_cases hlow : kl m[k].1 x.1 = true
      · obtain ⟨rfl, hP2⟩ := hP.low H.out.2.2.2.2.1 hlt hlow
        obtain ⟨W, hW⟩ : ∃ W, W = wr.alloc (.cells #[.string m[k].1, .slice R m[k].2.length cx] 32) := ⟨_, rfl⟩
        obtain ⟨A2, c2, w2, hrun, hI2, hf2⟩ := its_snoc hI (by omega) (rd_apart (hx2r.fr0 hf') hI.2) hcx (Nat.le_trans H.out.2.2.2.1 hf.size) hf.size hW
        rw [← hn] at hrun hI2
        have hbl : Go.Op.bytesLess m[k].1.toList key.toList = true := by rw [← hkey]; exact hlow
        have hne : (m[k].1.toList == key.toList) = false := by rw [beq_toList]; exact decide_eq_false (by rw [← hkey]; exact kl_ne hlow)
        have HS := Lib.hid (And.intro hn (And.intro hP2 (And.intro hI2 (hf.trans (hf2.mono fun i _ e => .inl e)))))
        clear hn hP hP2 hI hI2 hf hf' hxr hx2r hx2c hx2k hcx hlow hol hsz hf2 hkey hxl
        obtain ⟨kx, hkx⟩ : ∃ kx, m[k].1 = kx := ⟨_, rfl⟩
        obtain ⟨lx, hlx⟩ : ∃ lx, m[k].2.length = lx := ⟨_, rfl⟩
        rw [hkx] at x0 hne hW hbl
        rw [hlx] at x1 hW
        clear hkx hlx
        go_wp2_with (at_builtin; rw [← hW]; refine wpList_plain rfl fun K hK => wp_append_run _ _ _ _ rfl rfl rfl hrun (hK _ _ ?_))
        go_roundw
        case rel => exact ⟨k + 1, n + 1, A2, c2, false, by omega, by go_num, rfl, rfl, _, by rw [List.length_append, ← HS.out.1]; rfl, HS.out.2.1, HS.out.2.2.1, HS.out.2.2.2⟩
        case measure => simp [intOf]; omega
      · have hlow' : kl m[k].1 x.1 = false := by simpa using hlow
        have hbl : Go.Op.bytesLess m[k].1.toList key.toList = false := by rw [← hkey]; exact hlow'
        by_cases hsame : m[k].1 = x.1
        · obtain ⟨rfl, hP2⟩ := hP.same H.out.2.2.2.2.1 hlt hsame
          have HS := Lib.hid (And.intro hn (And.intro hP2 (And.intro hI (And.intro hf (And.intro hol (And.intro hkey hxl))))))
          rw [hsame, hkey] at x0 hbl hx2k
          clear hn hP hP2 hI hf hxr hx2r hx2c hcx hlow hlow' hol hsame hkey hxl x1
          go_wp2_with fail
          refine (H.out.2.2.2.2.2 _ hf').mono ?_
          rintro e w1 ⟨A2, c2, rfl, hO, hf1⟩
          obtain ⟨W, hW⟩ : ∃ W, W = w1.alloc (.cells #[.string x.1, .slice A2 x.2.length c2] 32) := ⟨_, rfl⟩
          obtain ⟨A3, c3, w3, hrun, hI3, hf3⟩ := its_snoc (HS.out.2.2.1.fr hf1) (by have := HS.out.2.2.2.2.1; omega) (hO.rd.2.2.mono_own HX.out.1 (Nat.le_trans H.out.2.2.2.1 hsz) (fun i hi => (HS.out.2.2.1.1.own hi).2)) (by rw [HX.out.1]; exact HX.out.2 ▸ hO.rd.2.1) (Nat.le_trans H.out.2.2.2.1 (Nat.le_trans hsz hf1.size)) (Nat.le_trans hsz hf1.size) hW
          rw [← HS.out.1] at hrun hI3
          have hfr3 : Fr (fun i => w.heap.size ≤ i) w w3 := HS.out.2.2.2.1.trans ((hf1.mono fun _ _ f => f.elim).trans (hf3.mono fun i _ e => .inl (.inl e)))
          have x0 := old_cell hfr3 hx2k
          rw [HS.out.2.2.2.2.2.1, HS.out.2.2.2.2.2.2] at hW
          have HT := Lib.hid (And.intro hI3 hfr3)
          clear hI3 hfr3 hf3 hO hf1 hf' hx2k
          go_wp2_with (at_builtin; rw [← hW]; refine wpList_plain rfl fun K hK => wp_append_run _ _ _ _ rfl rfl rfl hrun (hK _ _ ?_))
          go_roundw
          case rel => exact ⟨k + 1, n + 1, A3, c3, true, by omega, by go_num, rfl, rfl, _, by rw [List.length_append, ← HS.out.1]; rfl, HS.out.2.1, HT.out.1, HT.out.2⟩
          case measure => simp [intOf]; omega
        · have hne : (m[k].1.toList == key.toList) = false := by rw [beq_toList]; exact decide_eq_false (by rw [← hkey]; exact hsame)
          cases db with
          | true =>
            have hP2 := hP.past hlt
            obtain ⟨W, hW⟩ : ∃ W, W = wr.alloc (.cells #[.string m[k].1, .slice R m[k].2.length cx] 32) := ⟨_, rfl⟩
            obtain ⟨A2, c2, w2, hrun, hI2, hf2⟩ := its_snoc hI (by omega) (rd_apart (hx2r.fr0 hf') hI.2) hcx (Nat.le_trans H.out.2.2.2.1 hf.size) hf.size hW
            rw [← hn] at hrun hI2
            have HS := Lib.hid (And.intro hn (And.intro hP2 (And.intro hI2 (hf.trans (hf2.mono fun i _ e => .inl e)))))
            clear hn hP hP2 hI hI2 hf hf' hxr hx2r hx2c hx2k hcx hlow hlow' hol hsz hf2 hkey hxl hsame
            obtain ⟨kx, hkx⟩ : ∃ kx, m[k].1 = kx := ⟨_, rfl⟩
            obtain ⟨lx, hlx⟩ : ∃ lx, m[k].2.length = lx := ⟨_, rfl⟩
            rw [hkx] at x0 hne hW hbl
            rw [hlx] at x1 hW
            clear hkx hlx
            go_wp2_with (at_builtin; rw [← hW]; refine wpList_plain rfl fun K hK => wp_append_run _ _ _ _ rfl rfl rfl hrun (hK _ _ ?_))
            go_roundw
            case rel => exact ⟨k + 1, n + 1, A2, c2, true, by omega, by go_num, rfl, rfl, _, by rw [List.length_append, ← HS.out.1]; rfl, HS.out.2.1, HS.out.2.2.1, HS.out.2.2.2⟩
            case measure => simp [intOf]; omega
          | false =>
            have hP2 := hP.high H.out.2.2.2.2.1 hlt hlow' hsame
            have HS := Lib.hid (And.intro hn (And.intro hP2 (And.intro hI (And.intro hf (And.intro hol (And.intro hkey (And.intro hxl (And.intro hx2r (And.intro hcx (And.intro hx2c hx2k))))))))))
            obtain ⟨kx, hkx⟩ : ∃ kx, m[k].1 = kx := ⟨_, rfl⟩
            obtain ⟨lx, hlx⟩ : ∃ lx, m[k].2.length = lx := ⟨_, rfl⟩
            rw [hkx] at x0 hne hbl hx2k
            rw [hlx] at x1 hx2c
            have HKX := Lib.hid (And.intro hkx hlx)
            clear hn hP hP2 hI hf hxr hx2r hcx hlow hlow' hol hsame hkey hxl hkx hlx
            go_wp2_with fail
            refine (H.out.2.2.2.2.2 _ hf').mono ?_
            rintro e w1 ⟨A2, c2, rfl, hO, hf1⟩
            obtain ⟨W, hW⟩ : ∃ W, W = w1.alloc (.cells #[.string x.1, .slice A2 x.2.length c2] 32) := ⟨_, rfl⟩
            obtain ⟨A3, c3, w3, hrun, hI3, hf3⟩ := its_snoc (HS.out.2.2.1.fr hf1) (by have := HS.out.2.2.2.2.1; omega) (hO.rd.2.2.mono_own HX.out.1 (Nat.le_trans H.out.2.2.2.1 hsz) (fun i hi => (HS.out.2.2.1.1.own hi).2)) (by rw [HX.out.1]; exact HX.out.2 ▸ hO.rd.2.1) (Nat.le_trans H.out.2.2.2.1 (Nat.le_trans hsz hf1.size)) (Nat.le_trans hsz hf1.size) hW
            rw [← HS.out.1] at hrun hI3
            have hfr3 : Fr (fun i => w.heap.size ≤ i) w w3 := HS.out.2.2.2.1.trans ((hf1.mono fun _ _ f => f.elim).trans (hf3.mono fun i _ e => .inl (.inl e)))
            have x0 := old_cell hfr3 hx2k
            have x1 := old_cell hfr3 hx2c
            rw [HS.out.2.2.2.2.2.1, HS.out.2.2.2.2.2.2.1] at hW
            have HT := Lib.hid (And.intro hI3 hfr3)
            clear hI3 hfr3 hf3 hO hf1 hf'
            go_wp2_with (first
              | (at_builtin; rw [← hW4]; refine wpList_plain rfl fun K hK => wp_append_run _ _ _ _ rfl rfl rfl hrun4 (hK _ _ ?_))
              | (at_builtin; rw [← hW]; refine wpList_plain rfl fun K hK => wp_append_run _ _ _ _ rfl rfl rfl hrun (hK _ _ ?_)
                 clear hrun hW
                 obtain ⟨W4, hW4⟩ : ∃ W, W = w3.alloc (.cells #[.string m[k].1, .slice R m[k].2.length cx] 32) := ⟨_, rfl⟩
                 have hlen1 : (out ++ [x]).length = n + 1 := by rw [List.length_append, ← HS.out.1]; rfl
                 obtain ⟨A4, c4, w4, hrun4, hI4, hf4⟩ := its_snoc HT.out.1 (by have := HS.out.2.2.2.2.1; rw [List.length_append]; have := H.out.2.2.1; simp; omega) (rd_apart (HS.out.2.2.2.2.2.2.2.1.fr0 (fr_old HT.out.2)) HT.out.1.2) HS.out.2.2.2.2.2.2.2.2.1 (Nat.le_trans H.out.2.2.2.1 HT.out.2.size) HT.out.2.size hW4
                 rw [hlen1] at hrun4 hI4
                 have HQ := Lib.hid (And.intro hI4 (And.intro (HT.out.2.trans (hf4.mono fun i _ e => .inl e)) hlen1))
                 rw [HKX.out.1, HKX.out.2] at hW4
                 clear hI4 hf4 hlen1))
            go_roundw
            case rel => exact ⟨k + 1, n + 1 + 1, A4, c4, true, by omega, by go_num, rfl, rfl, _, by rw [List.length_append, HQ.out.2.2]; rfl, HS.out.2.1, HQ.out.1, HQ.out.2.1⟩
            case measure => simp [intOf]; omega
    · obtain rfl : k = m.length := by omega
      have hfin := hP.done
      have hsz := hf.size
      cases db with
      | true =>
        rw [if_pos rfl, HG.out] at hfin
        clear HG
        subst hfin
        have HS := Lib.hid (And.intro hI hf')
        subst hn
        clear hI hf hf' hP hol hsz
        go_wp2_with fail
        go_ret
        exact ⟨A1, c1, rfl, HS.out.1, HS.out.2⟩
      | false =>
        rw [if_neg (by decide), HG.out] at hfin
        clear HG
        subst hfin
        have hkey : x.1 = key := by rw [HX.out.1]
        have hxl : x.2.length = rl := by rw [HX.out.1]; exact HX.out.2
        have HS := Lib.hid (And.intro hn (And.intro hI (And.intro hf (And.intro hol (And.intro hkey hxl)))))
        have hlen1 : (out ++ [x]).length = n + 1 := by rw [List.length_append, ← hn]; rfl
        have HLL := Lib.hid hlen1
        clear hn hP hI hf hol hkey hxl hlen1
        go_wp2_with fail
        refine (H.out.2.2.2.2.2 _ hf').mono ?_
        rintro e w1 ⟨A2, c2, rfl, hO, hf1⟩
        obtain ⟨W, hW⟩ : ∃ W, W = w1.alloc (.cells #[.string x.1, .slice A2 x.2.length c2] 32) := ⟨_, rfl⟩
        obtain ⟨A3, c3, w3, hrun, hI3, hf3⟩ := its_snoc (HS.out.2.1.fr hf1) (by have := HS.out.2.2.2.1; omega) (hO.rd.2.2.mono_own HX.out.1 (Nat.le_trans H.out.2.2.2.1 hsz) (fun i hi => (HS.out.2.1.1.own hi).2)) (by rw [HX.out.1]; exact HX.out.2 ▸ hO.rd.2.1) (Nat.le_trans H.out.2.2.2.1 (Nat.le_trans hsz hf1.size)) (Nat.le_trans hsz hf1.size) hW
        rw [← HS.out.1] at hrun hI3
        have hfr3 : Fr (fun i => w.heap.size ≤ i) w w3 := HS.out.2.2.1.trans ((hf1.mono fun _ _ f => f.elim).trans (hf3.mono fun i _ e => .inl (.inl e)))
        rw [HS.out.2.2.2.2.1, HS.out.2.2.2.2.2] at hW
        have HT := Lib.hid (And.intro hI3 (fr_old hfr3))
        clear hI3 hfr3 hf3 hO hf1 hf'
        go_wp2_with (at_builtin; rw [← hW]; refine wpList_plain rfl fun K hK => wp_append_run _ _ _ _ rfl rfl rfl hrun (hK _ _ ?_))
        go_ret
        rw [HLL.out]
        exact ⟨A3, c3, rfl, HT.out.1, HT.out.2⟩
end Go.Proofs.YtlgmodeibmdcgaaDoor
