/- Reference 5: Fit. -/
import Derived.Test.YtlmhphejgahfbaaGreatDoorMrowledgerdeletes8
import Derived.Test.YtlmhphejgahfbaaGreatDoorMrowledgerdeletes3
set_option linter.unusedVariables false
set_option linter.unusedSimpArgs false
namespace Go.Proofs.YtlmhphejgahfbaaGreatDoor
open Go.RowKit

def textOf (k : Nat) : ByteArray := ⟨(([0, 97, 98, 255] : Bs).take k).toArray⟩
/-- What a byte becomes in a column. -/
def fitV (c : Col) (b : UInt8) : Val := if c.2.2 = true ∧ b.toNat % 4 = 3 then (0, 0, ⟨#[]⟩) else if c.2.1 = 1 then (1, ((b.toNat % 8 : Nat) : Int) - 2, ⟨#[]⟩) else (2, 0, textOf (b.toNat % 4))
def fitAt (cols : List Col) (l : Bs) (i : Nat) : Val := fitV (cols.getD i (⟨#[]⟩, 0, false)) (l.getD i 0)
def fit (cols : List Col) (l : Bs) (n : Nat) : List Val := (List.range n).map (fitAt cols l)
theorem fit_succ (cols : List Col) (l : Bs) (n : Nat) : fit cols l (n + 1) = fit cols l n ++ [fitAt cols l n] := by unfold fit; rw [List.range_succ, List.map_append]; rfl
theorem fit_len (cols : List Col) (l : Bs) (n : Nat) : (fit cols l n).length = n := by unfold fit; simp
theorem u8_no1 {c : UInt8} (h : ¬ c = 1) : ¬ (c.toNat : Int) = 1 := fun e => h (UInt8.toNat_inj.1 (show c.toNat = 1 by omega))
theorem info_val : (Tryz.prog.info? 35).map (fun i => (i.zero, i.size, i.bytes)) = some (some (.agg #[.int .u8 0, .int .i64 0, .string ⟨#[]⟩]), 3, 32) := by kernel_rfl
theorem u8_atF {w : World} {F : Nat → Prop} {A : Option Addr} {l : Bs} (h : Rd Ty.u8 w F A l) {i : Nat} (hi : i < l.length) : ∃ ad, A = some ad ∧ w.cell? (ad.add i) = some (.int .u8 (l[i].toNat : Int)) := by
  obtain ⟨ad, cs, e, hk, h0, _⟩ := h.get' hi (by decide)
  obtain rfl : cs = _ := hk
  have := h0 _ rfl
  rw [show Ty.u8.sz = 1 from rfl, Nat.mul_one] at this
  exact ⟨ad, e, this⟩
theorem fit_run {w0 wr W1 : World} {Ao : Option Addr} {co k g : Nat} {xs : List Val} (hO : Ow tVal 35 wr (fun i => w0.heap.size ≤ i) (.slice Ao k co) xs) (hx : xs.length = k) (hk : k ≤ 8) (h0 : Fr No w0 wr) (hf : Fr No wr W1) (v : Val) (hA : At W1 (some ⟨g, 0, none⟩) [.int .u8 (v.1.toNat : Int), .int .i64 v.2.1, .string v.2.2]) :
    ∃ A1 c1 w1, (Builtin.append_ #[36, 36] 36 #[.slice Ao k co, .slice (some ⟨g, 0, none⟩) 1 1]).run Tryz.prog W1 = .ok (.slice A1 (k + 1) c1) w1 ∧ Hid (Ow tVal 35 w1 (fun i => w0.heap.size ≤ i) (.slice A1 (k + 1) c1) (xs ++ [v]) ∧ Fr No w0 w1) := by
  obtain ⟨A1, c1, w1, hrun, hO1, hg, _⟩ := run_ow_append (P := Tryz.prog) (ty := 36) (ty' := 36) tVal (hO.fr0 hf) (.agg #[.int .u8 0, .int .i64 0, .string ⟨#[]⟩]) 32 Tryz.underlying36 info_val rfl (by decide) (by decide) 1 (ys := [v])
    (Row.single (t := tVal) ⟨[.int .u8 (v.1.toNat : Int)], [.int .i64 v.2.1, .string v.2.2], rfl, rfl, [.int .i64 v.2.1], [.string v.2.2], rfl, rfl, rfl⟩) hA (by rw [hx]; simp only [List.length_singleton]; omega)
  rw [hx] at hrun hO1
  simp only [List.length_singleton] at hrun hO1
  have z1 := h0.size
  have z2 := hf.size
  exact ⟨A1, c1, w1, hrun, hO1.mono fun i hi _ => by rcases hi with hi | hi <;> omega, (h0.next hf (fun _ _ f => f.elim)).grown hg fun i hi => .inr (hO.own hi).1⟩
set_option maxHeartbeats 2000000 in
set_option maxRecDepth 100000 in
theorem fit_ok {w : World} {F G : Nat → Prop} {R A : Option Addr} {cr c n m q : Nat} {nm : ByteArray} {ks : Int} {cols : List Col} {l : Bs} (hc : Rd tCol w F R cols) (hl : Rd Ty.u8 w G A l) (hm : m = cols.length) (hq : q = l.length) (hn : n ≤ cols.length) (h8 : cols.length ≤ 8) :
    Calls Tryz.prog 22 #[.agg #[.string nm, .slice R m cr, .int .i64 ks], .int .i64 (n : Int), .slice A q c] w fun e w' => ∃ Ao co, e = .returned (.slice Ao n co) ∧ Ow tVal 35 w' (fun i => w.heap.size ≤ i) (.slice Ao n co) (fit cols l n) ∧ Fr No w w' := by
  have hl63 : (q : Int) ≤ 9223372036854775807 := by have := hl.1; omega
  have hq0 : (0 : Int) ≤ (q : Int) := Int.natCast_nonneg _
  have hn8 : (n : Int) ≤ 8 := by omega
  have hnm : (n : Int) ≤ (m : Int) := by omega
  obtain ⟨W0, hW0⟩ : ∃ W0, W0 = w.alloc (.cells #[.string nm, .slice R m cr, .int .i64 ks] 54) := ⟨_, rfl⟩
  have hf0 : Fr No w W0 := by rw [hW0]; exact (Fr.refl No w).alloc _
  have hb0 : W0.heap[w.heap.size]? = some (.cells #[.string nm, .slice R m cr, .int .i64 ks] 54 (0, 0)) := by rw [hW0]; exact heap_alloc_new w _
  have H := Lib.hid (And.intro hc (And.intro hl (And.intro hm (And.intro hq (And.intro hn (And.intro h8 (And.intro hf0 hb0)))))))
  clear hc hl hm hq hn h8 hf0 hb0
  go_enter Tryz.func22, Tryz.ntmps22
  go_wp2_with fail
  rw [← hW0]
  clear hW0
  go_loopw [7, 8] (fun ov iv wr => ∃ (k : Nat) (Ao : Option Addr) (co : Nat), k ≤ n ∧ iv = .int .i64 (k : Int) ∧ ov = .slice Ao k co ∧ Hid (Ow tVal 35 wr (fun i => W0.heap.size ≤ i) (.slice Ao k co) (fit cols l k) ∧ Fr No W0 wr)) (fun _ iv _ => n - (intOf iv).toNat)
  case atStart => exact ⟨0, none, 0, Nat.zero_le _, rfl, rfl, Ow.nil, Fr.refl No W0⟩
  case round =>
    obtain ⟨k, Ao, co, hk, rfl, rfl, I⟩ := hrel
    have hk0 : (0 : Int) ≤ (k : Int) := Int.natCast_nonneg _
    have hfwr : Fr No w wr := H.out.2.2.2.2.2.2.1.next I.out.2 (fun _ _ f => f.elim)
    have b1 := blk_cell (I.out.2.blk H.out.2.2.2.2.2.2.2 (fun f => f)) 1
    simp at b1
    by_cases hlt : k < n
    · have hk1 : (k : Int) < (n : Int) := by omega
      have hkm : (k : Int) < (m : Int) := by omega
      have hltc : k < cols.length := by have := H.out.2.2.2.2.1; omega
      obtain ⟨ad, rfl, x0, x1, x2⟩ := col_at (H.out.1.fr0 hfwr) hltc
      have hsucc := fit_succ cols l k
      have hfa : fitAt cols l k = fitV cols[k] (l.getD k 0) := by unfold fitAt; rw [List.getD_eq_getElem?_getD, List.getElem?_eq_getElem hltc]; rfl
      rw [hfa] at hsucc
      have hflen := fit_len cols l k
      have h8 := H.out.2.2.2.2.2.1
      obtain ⟨cl, hcl⟩ : ∃ cl, cols[k] = cl := ⟨_, rfl⟩
      rw [hcl] at x0 x1 x2 hsucc
      clear hcl hfa
      obtain ⟨B, hB⟩ : ∃ B, l.getD k 0 = B := ⟨_, rfl⟩
      rw [hB] at hsucc
      obtain ⟨cn, ck, cb⟩ := cl
      dsimp only at x0 x1 x2
      have hB256 : (B.toNat : Int) < 256 := by have := B.toNat_lt; omega
      have hB0 : (0 : Int) ≤ (B.toNat : Int) := Int.natCast_nonneg _
      by_cases hkl : k < l.length
      · obtain ⟨adl, rfl, y0⟩ := u8_atF (H.out.2.1.fr0 hfwr) hkl
        have hBl : l[k] = B := by rw [← hB, List.getD_eq_getElem?_getD, List.getElem?_eq_getElem hkl]; rfl
        rw [hBl] at y0
        have hkq : (k : Int) < (q : Int) := by have := H.out.2.2.2.1; omega
        cases cb with
        | true =>
          by_cases hb3 : B.toNat % 4 = 3
          · have hb3i : (B.toNat : Int) % 4 = 3 := by omega
            have hv : fitV (cn, ck, true) B = (0, 0, ⟨#[]⟩) := if_pos ⟨rfl, hb3⟩
            rw [hv] at hsucc
            obtain ⟨W1, hW1⟩ : ∃ W1, W1 = (wr.alloc (.cells #[.string cn, .int .u8 (ck.toNat : Int), .bool true] 91)).alloc (.cells #[.int .u8 0, .int .i64 0, .string ⟨#[]⟩] 35) := ⟨_, rfl⟩
            obtain ⟨A1, c1, w1, hrun, HH⟩ := fit_run (g := wr.heap.size + 1) I.out.1 hflen (by omega) I.out.2 (show Fr No wr W1 by rw [hW1]; exact ((Fr.refl No wr).alloc _).alloc _) (0, 0, ⟨#[]⟩) (by rw [hW1]; exact At.block (blk_two2 wr _ _))
            have HS := Lib.hid hsucc
            clear hsucc hflen h8 hb3 hv I hfwr
            go_wp2_with (at_builtin; rw [← hW1]; refine wpList_plain rfl fun K hK => wp_append_run _ _ _ _ rfl rfl rfl hrun (hK _ _ ?_))
            go_roundw
            case rel => exact ⟨k + 1, A1, c1, by omega, by go_num, rfl, by rw [HS.out]; exact HH.out.1, HH.out.2⟩
            case measure => simp [intOf]; omega
          · by_cases hck : ck = 1
            · subst hck
              have hv : fitV (cn, 1, true) B = (1, ((B.toNat % 8 : Nat) : Int) - 2, ⟨#[]⟩) := by unfold fitV; rw [if_neg (fun h => hb3 h.2), if_pos rfl]
              rw [hv] at hsucc
              have hwb : IntKind.i64.wrap ((B.toNat : Int) % 8 - 2) = (B.toNat : Int) % 8 - 2 := IntWalk.i64_in _ (by omega)
              obtain ⟨W1, hW1⟩ : ∃ W1, W1 = (wr.alloc (.cells #[.string cn, .int .u8 1, .bool true] 91)).alloc (.cells #[.int .u8 1, .int .i64 ((B.toNat : Int) % 8 - 2), .string ⟨#[]⟩] 35) := ⟨_, rfl⟩
              obtain ⟨A1, c1, w1, hrun, HH⟩ := fit_run (g := wr.heap.size + 1) I.out.1 hflen (by omega) I.out.2 (show Fr No wr W1 by rw [hW1]; exact ((Fr.refl No wr).alloc _).alloc _) (1, ((B.toNat % 8 : Nat) : Int) - 2, ⟨#[]⟩) (by rw [hW1]; have := At.block (blk_two2 wr (.cells #[.string cn, .int .u8 1, .bool true] 91) (.cells #[.int .u8 1, .int .i64 ((B.toNat : Int) % 8 - 2), .string ⟨#[]⟩] 35)); rw [show ((((B.toNat % 8 : Nat) : Int) - 2) : Int) = (B.toNat : Int) % 8 - 2 by omega]; exact this)
              have x1 : _ = some (Value.int .u8 1) := x1
              have HS := Lib.hid hsucc
              clear hsucc hflen h8 hv I hfwr
              go_wp2_with (at_builtin; rw [← hW1]; refine wpList_plain rfl fun K hK => wp_append_run _ _ _ _ rfl rfl rfl hrun (hK _ _ ?_))
              go_roundw
              case rel => exact ⟨k + 1, A1, c1, by omega, by go_num, rfl, by rw [HS.out]; exact HH.out.1, HH.out.2⟩
              case measure => simp [intOf]; omega
            · have hcki : ¬ (ck.toNat : Int) = 1 := u8_no1 hck
              obtain ⟨r, hr⟩ : ∃ r, B.toNat % 4 = r := ⟨_, rfl⟩
              have hr4 : r < 4 := by omega
              have hv : fitV (cn, ck, true) B = (2, 0, textOf r) := by unfold fitV; rw [if_neg (fun h => hb3 h.2), if_neg hck, hr]
              rw [hv] at hsucc
              have hri : (B.toNat : Int) % 4 = (r : Int) := by omega
              have hri4 : (r : Int) < 4 := by omega
              have hri0 : (0 : Int) ≤ (r : Int) := Int.natCast_nonneg _
              have hb4 : Rd Ty.u8 ((wr.alloc (.cells #[.string cn, .int .u8 (ck.toNat : Int), .bool true] 91)).alloc (.cells #[.int .u8 0, .int .u8 97, .int .u8 98, .int .u8 255] 5)) (fun _ => True) (some ⟨wr.heap.size + 1, 0, none⟩) ([0, 97, 98, 255] : Bs) := ⟨by decide, [.int .u8 0, .int .u8 97, .int .u8 98, .int .u8 255], ⟨[_], [_, _, _], rfl, rfl, [_], [_, _], rfl, rfl, [_], [_], rfl, rfl, [_], [], rfl, rfl, rfl⟩, fun j u hu => ⟨_, rfl, trivial, by rw [add0, blk_cell (blk_two2 wr _ _), ← Array.getElem?_toList]; exact hu⟩⟩
              have hconv := run_str (c := 4) (n := r) (hb4.take r) (by rw [List.length_take]; simp; omega)
              rw [show (⟨(([0, 97, 98, 255] : Bs).take r).toArray⟩ : ByteArray) = textOf r from rfl] at hconv
              obtain ⟨S, hS⟩ : ∃ S, textOf r = S := ⟨_, rfl⟩
              rw [hS] at hconv hsucc hv
              obtain ⟨W1, hW1⟩ : ∃ W1, W1 = ((wr.alloc (.cells #[.string cn, .int .u8 (ck.toNat : Int), .bool true] 91)).alloc (.cells #[.int .u8 0, .int .u8 97, .int .u8 98, .int .u8 255] 5)).alloc (.cells #[.int .u8 2, .int .i64 0, .string S] 35) := ⟨_, rfl⟩
              have hA2 : At W1 (some ⟨wr.heap.size + 2, 0, none⟩) [.int .u8 2, .int .i64 0, .string S] := by
                have := At.block (heap_alloc_new ((wr.alloc (.cells #[.string cn, .int .u8 (ck.toNat : Int), .bool true] 91)).alloc (.cells #[.int .u8 0, .int .u8 97, .int .u8 98, .int .u8 255] 5)) (.cells #[.int .u8 2, .int .i64 0, .string S] 35))
                rw [World.size_alloc, World.size_alloc] at this
                rw [hW1]; exact this
              obtain ⟨A1, c1, w1, hrun, HH⟩ := fit_run (g := wr.heap.size + 2) I.out.1 hflen (by omega) I.out.2 (show Fr No wr W1 by rw [hW1]; exact (((Fr.refl No wr).alloc _).alloc _).alloc _) (2, 0, S) hA2
              clear hA2 hb4 hr hS
              have HS := Lib.hid hsucc
              clear hsucc hflen h8 hv I hfwr
              go_wp2_with (at_builtin; rw [← hW1]; refine wpList_plain rfl fun K hK => wp_append_run _ _ _ _ rfl rfl rfl hrun (hK _ _ ?_))
              go_roundw
              case rel => exact ⟨k + 1, A1, c1, by omega, by go_num, rfl, by rw [HS.out]; exact HH.out.1, HH.out.2⟩
              case measure => simp [intOf]; omega
        | false =>
          by_cases hck : ck = 1
          · subst hck
            have hv : fitV (cn, 1, false) B = (1, ((B.toNat % 8 : Nat) : Int) - 2, ⟨#[]⟩) := by unfold fitV; rw [if_neg (fun h => by cases h.1), if_pos rfl]
            rw [hv] at hsucc
            have hwb : IntKind.i64.wrap ((B.toNat : Int) % 8 - 2) = (B.toNat : Int) % 8 - 2 := IntWalk.i64_in _ (by omega)
            obtain ⟨W1, hW1⟩ : ∃ W1, W1 = (wr.alloc (.cells #[.string cn, .int .u8 1, .bool false] 91)).alloc (.cells #[.int .u8 1, .int .i64 ((B.toNat : Int) % 8 - 2), .string ⟨#[]⟩] 35) := ⟨_, rfl⟩
            obtain ⟨A1, c1, w1, hrun, HH⟩ := fit_run (g := wr.heap.size + 1) I.out.1 hflen (by omega) I.out.2 (show Fr No wr W1 by rw [hW1]; exact ((Fr.refl No wr).alloc _).alloc _) (1, ((B.toNat % 8 : Nat) : Int) - 2, ⟨#[]⟩) (by rw [hW1]; have := At.block (blk_two2 wr (.cells #[.string cn, .int .u8 1, .bool false] 91) (.cells #[.int .u8 1, .int .i64 ((B.toNat : Int) % 8 - 2), .string ⟨#[]⟩] 35)); rw [show ((((B.toNat % 8 : Nat) : Int) - 2) : Int) = (B.toNat : Int) % 8 - 2 by omega]; exact this)
            have x1 : _ = some (Value.int .u8 1) := x1
            have HS := Lib.hid hsucc
            clear hsucc hflen h8 hv I hfwr
            go_wp2_with (at_builtin; rw [← hW1]; refine wpList_plain rfl fun K hK => wp_append_run _ _ _ _ rfl rfl rfl hrun (hK _ _ ?_))
            go_roundw
            case rel => exact ⟨k + 1, A1, c1, by omega, by go_num, rfl, by rw [HS.out]; exact HH.out.1, HH.out.2⟩
            case measure => simp [intOf]; omega
          · have hcki : ¬ (ck.toNat : Int) = 1 := u8_no1 hck
            obtain ⟨r, hr⟩ : ∃ r, B.toNat % 4 = r := ⟨_, rfl⟩
            have hr4 : r < 4 := by omega
            have hv : fitV (cn, ck, false) B = (2, 0, textOf r) := by unfold fitV; rw [if_neg (fun h => by cases h.1), if_neg hck, hr]
            rw [hv] at hsucc
            have hri : (B.toNat : Int) % 4 = (r : Int) := by omega
            have hri4 : (r : Int) < 4 := by omega
            have hri0 : (0 : Int) ≤ (r : Int) := Int.natCast_nonneg _
            have hb4 : Rd Ty.u8 ((wr.alloc (.cells #[.string cn, .int .u8 (ck.toNat : Int), .bool false] 91)).alloc (.cells #[.int .u8 0, .int .u8 97, .int .u8 98, .int .u8 255] 5)) (fun _ => True) (some ⟨wr.heap.size + 1, 0, none⟩) ([0, 97, 98, 255] : Bs) := ⟨by decide, [.int .u8 0, .int .u8 97, .int .u8 98, .int .u8 255], ⟨[_], [_, _, _], rfl, rfl, [_], [_, _], rfl, rfl, [_], [_], rfl, rfl, [_], [], rfl, rfl, rfl⟩, fun j u hu => ⟨_, rfl, trivial, by rw [add0, blk_cell (blk_two2 wr _ _), ← Array.getElem?_toList]; exact hu⟩⟩
            have hconv := run_str (c := 4) (n := r) (hb4.take r) (by rw [List.length_take]; simp; omega)
            rw [show (⟨(([0, 97, 98, 255] : Bs).take r).toArray⟩ : ByteArray) = textOf r from rfl] at hconv
            obtain ⟨S, hS⟩ : ∃ S, textOf r = S := ⟨_, rfl⟩
            rw [hS] at hconv hsucc hv
            obtain ⟨W1, hW1⟩ : ∃ W1, W1 = ((wr.alloc (.cells #[.string cn, .int .u8 (ck.toNat : Int), .bool false] 91)).alloc (.cells #[.int .u8 0, .int .u8 97, .int .u8 98, .int .u8 255] 5)).alloc (.cells #[.int .u8 2, .int .i64 0, .string S] 35) := ⟨_, rfl⟩
            have hA2 : At W1 (some ⟨wr.heap.size + 2, 0, none⟩) [.int .u8 2, .int .i64 0, .string S] := by
              have := At.block (heap_alloc_new ((wr.alloc (.cells #[.string cn, .int .u8 (ck.toNat : Int), .bool false] 91)).alloc (.cells #[.int .u8 0, .int .u8 97, .int .u8 98, .int .u8 255] 5)) (.cells #[.int .u8 2, .int .i64 0, .string S] 35))
              rw [World.size_alloc, World.size_alloc] at this
              rw [hW1]; exact this
            obtain ⟨A1, c1, w1, hrun, HH⟩ := fit_run (g := wr.heap.size + 2) I.out.1 hflen (by omega) I.out.2 (show Fr No wr W1 by rw [hW1]; exact (((Fr.refl No wr).alloc _).alloc _).alloc _) (2, 0, S) hA2
            clear hA2 hb4 hr hS
            have HS := Lib.hid hsucc
            clear hsucc hflen h8 hv I hfwr
            go_wp2_with (at_builtin; rw [← hW1]; refine wpList_plain rfl fun K hK => wp_append_run _ _ _ _ rfl rfl rfl hrun (hK _ _ ?_))
            go_roundw
            case rel => exact ⟨k + 1, A1, c1, by omega, by go_num, rfl, by rw [HS.out]; exact HH.out.1, HH.out.2⟩
            case measure => simp [intOf]; omega
      · have hkq : ¬ (k : Int) < (q : Int) := by have := H.out.2.2.2.1; omega
        have hB00 : B = 0 := by rw [← hB, List.getD_eq_getElem?_getD, List.getElem?_eq_none (by omega)]; rfl
        subst hB00
        have hbn0 : ((0 : UInt8).toNat) = 0 := rfl
        clear hB hB256 hB0 hbn0
        cases cb with
        | true =>
          by_cases hck : ck = 1
          · subst hck
            have hv : fitV (cn, 1, true) 0 = (1, -2, ⟨#[]⟩) := by unfold fitV; rw [if_neg (fun h => absurd h.2 (by decide)), if_pos rfl]; rfl
            rw [hv] at hsucc
            obtain ⟨W1, hW1⟩ : ∃ W1, W1 = (wr.alloc (.cells #[.string cn, .int .u8 1, .bool true] 91)).alloc (.cells #[.int .u8 1, .int .i64 (-2), .string ⟨#[]⟩] 35) := ⟨_, rfl⟩
            obtain ⟨A1, c1, w1, hrun, HH⟩ := fit_run (g := wr.heap.size + 1) I.out.1 hflen (by omega) I.out.2 (show Fr No wr W1 by rw [hW1]; exact ((Fr.refl No wr).alloc _).alloc _) (1, -2, ⟨#[]⟩) (by rw [hW1]; exact At.block (blk_two2 wr _ _))
            have x1 : _ = some (Value.int .u8 1) := x1
            have HS := Lib.hid hsucc
            clear hsucc hflen h8 hv I hfwr
            go_wp2_with (at_builtin; rw [← hW1]; refine wpList_plain rfl fun K hK => wp_append_run _ _ _ _ rfl rfl rfl hrun (hK _ _ ?_))
            go_roundw
            case rel => exact ⟨k + 1, A1, c1, by omega, by go_num, rfl, by rw [HS.out]; exact HH.out.1, HH.out.2⟩
            case measure => simp [intOf]; omega
          · have hcki : ¬ (ck.toNat : Int) = 1 := u8_no1 hck
            have hv : fitV (cn, ck, true) 0 = (2, 0, textOf 0) := by unfold fitV; rw [if_neg (fun h => absurd h.2 (by decide)), if_neg hck]; rfl
            rw [hv] at hsucc
            have hb4 : Rd Ty.u8 ((wr.alloc (.cells #[.string cn, .int .u8 (ck.toNat : Int), .bool true] 91)).alloc (.cells #[.int .u8 0, .int .u8 97, .int .u8 98, .int .u8 255] 5)) (fun _ => True) (some ⟨wr.heap.size + 1, 0, none⟩) ([0, 97, 98, 255] : Bs) := ⟨by decide, [.int .u8 0, .int .u8 97, .int .u8 98, .int .u8 255], ⟨[_], [_, _, _], rfl, rfl, [_], [_, _], rfl, rfl, [_], [_], rfl, rfl, [_], [], rfl, rfl, rfl⟩, fun j u hu => ⟨_, rfl, trivial, by rw [add0, blk_cell (blk_two2 wr _ _), ← Array.getElem?_toList]; exact hu⟩⟩
            have hconv := run_str (c := 4) (n := 0) (hb4.take 0) (by rw [List.length_take]; simp)
            rw [show (⟨(([0, 97, 98, 255] : Bs).take 0).toArray⟩ : ByteArray) = textOf 0 from rfl] at hconv
            obtain ⟨S, hS⟩ : ∃ S, textOf 0 = S := ⟨_, rfl⟩
            rw [hS] at hconv hsucc hv
            obtain ⟨W1, hW1⟩ : ∃ W1, W1 = ((wr.alloc (.cells #[.string cn, .int .u8 (ck.toNat : Int), .bool true] 91)).alloc (.cells #[.int .u8 0, .int .u8 97, .int .u8 98, .int .u8 255] 5)).alloc (.cells #[.int .u8 2, .int .i64 0, .string S] 35) := ⟨_, rfl⟩
            have hA2 : At W1 (some ⟨wr.heap.size + 2, 0, none⟩) [.int .u8 2, .int .i64 0, .string S] := by
              have := At.block (heap_alloc_new ((wr.alloc (.cells #[.string cn, .int .u8 (ck.toNat : Int), .bool true] 91)).alloc (.cells #[.int .u8 0, .int .u8 97, .int .u8 98, .int .u8 255] 5)) (.cells #[.int .u8 2, .int .i64 0, .string S] 35))
              rw [World.size_alloc, World.size_alloc] at this
              rw [hW1]; exact this
            obtain ⟨A1, c1, w1, hrun, HH⟩ := fit_run (g := wr.heap.size + 2) I.out.1 hflen (by omega) I.out.2 (show Fr No wr W1 by rw [hW1]; exact (((Fr.refl No wr).alloc _).alloc _).alloc _) (2, 0, S) hA2
            clear hA2 hb4 hS
            have HS := Lib.hid hsucc
            clear hsucc hflen h8 hv I hfwr
            go_wp2_with (at_builtin; rw [← hW1]; refine wpList_plain rfl fun K hK => wp_append_run _ _ _ _ rfl rfl rfl hrun (hK _ _ ?_))
            go_roundw
            case rel => exact ⟨k + 1, A1, c1, by omega, by go_num, rfl, by rw [HS.out]; exact HH.out.1, HH.out.2⟩
            case measure => simp [intOf]; omega
        | false =>
          by_cases hck : ck = 1
          · subst hck
            have hv : fitV (cn, 1, false) 0 = (1, -2, ⟨#[]⟩) := by unfold fitV; rw [if_neg (fun h => absurd h.2 (by decide)), if_pos rfl]; rfl
            rw [hv] at hsucc
            obtain ⟨W1, hW1⟩ : ∃ W1, W1 = (wr.alloc (.cells #[.string cn, .int .u8 1, .bool false] 91)).alloc (.cells #[.int .u8 1, .int .i64 (-2), .string ⟨#[]⟩] 35) := ⟨_, rfl⟩
            obtain ⟨A1, c1, w1, hrun, HH⟩ := fit_run (g := wr.heap.size + 1) I.out.1 hflen (by omega) I.out.2 (show Fr No wr W1 by rw [hW1]; exact ((Fr.refl No wr).alloc _).alloc _) (1, -2, ⟨#[]⟩) (by rw [hW1]; exact At.block (blk_two2 wr _ _))
            have x1 : _ = some (Value.int .u8 1) := x1
            have HS := Lib.hid hsucc
            clear hsucc hflen h8 hv I hfwr
            go_wp2_with (at_builtin; rw [← hW1]; refine wpList_plain rfl fun K hK => wp_append_run _ _ _ _ rfl rfl rfl hrun (hK _ _ ?_))
            go_roundw
            case rel => exact ⟨k + 1, A1, c1, by omega, by go_num, rfl, by rw [HS.out]; exact HH.out.1, HH.out.2⟩
            case measure => simp [intOf]; omega
          · have hcki : ¬ (ck.toNat : Int) = 1 := u8_no1 hck
            have hv : fitV (cn, ck, false) 0 = (2, 0, textOf 0) := by unfold fitV; rw [if_neg (fun h => absurd h.2 (by decide)), if_neg hck]; rfl
            rw [hv] at hsucc
            have hb4 : Rd Ty.u8 ((wr.alloc (.cells #[.string cn, .int .u8 (ck.toNat : Int), .bool false] 91)).alloc (.cells #[.int .u8 0, .int .u8 97, .int .u8 98, .int .u8 255] 5)) (fun _ => True) (some ⟨wr.heap.size + 1, 0, none⟩) ([0, 97, 98, 255] : Bs) := ⟨by decide, [.int .u8 0, .int .u8 97, .int .u8 98, .int .u8 255], ⟨[_], [_, _, _], rfl, rfl, [_], [_, _], rfl, rfl, [_], [_], rfl, rfl, [_], [], rfl, rfl, rfl⟩, fun j u hu => ⟨_, rfl, trivial, by rw [add0, blk_cell (blk_two2 wr _ _), ← Array.getElem?_toList]; exact hu⟩⟩
            have hconv := run_str (c := 4) (n := 0) (hb4.take 0) (by rw [List.length_take]; simp)
            rw [show (⟨(([0, 97, 98, 255] : Bs).take 0).toArray⟩ : ByteArray) = textOf 0 from rfl] at hconv
            obtain ⟨S, hS⟩ : ∃ S, textOf 0 = S := ⟨_, rfl⟩
            rw [hS] at hconv hsucc hv
            obtain ⟨W1, hW1⟩ : ∃ W1, W1 = ((wr.alloc (.cells #[.string cn, .int .u8 (ck.toNat : Int), .bool false] 91)).alloc (.cells #[.int .u8 0, .int .u8 97, .int .u8 98, .int .u8 255] 5)).alloc (.cells #[.int .u8 2, .int .i64 0, .string S] 35) := ⟨_, rfl⟩
            have hA2 : At W1 (some ⟨wr.heap.size + 2, 0, none⟩) [.int .u8 2, .int .i64 0, .string S] := by
              have := At.block (heap_alloc_new ((wr.alloc (.cells #[.string cn, .int .u8 (ck.toNat : Int), .bool false] 91)).alloc (.cells #[.int .u8 0, .int .u8 97, .int .u8 98, .int .u8 255] 5)) (.cells #[.int .u8 2, .int .i64 0, .string S] 35))
              rw [World.size_alloc, World.size_alloc] at this
              rw [hW1]; exact this
            obtain ⟨A1, c1, w1, hrun, HH⟩ := fit_run (g := wr.heap.size + 2) I.out.1 hflen (by omega) I.out.2 (show Fr No wr W1 by rw [hW1]; exact (((Fr.refl No wr).alloc _).alloc _).alloc _) (2, 0, S) hA2
            clear hA2 hb4 hS
            have HS := Lib.hid hsucc
            clear hsucc hflen h8 hv I hfwr
            go_wp2_with (at_builtin; rw [← hW1]; refine wpList_plain rfl fun K hK => wp_append_run _ _ _ _ rfl rfl rfl hrun (hK _ _ ?_))
            go_roundw
            case rel => exact ⟨k + 1, A1, c1, by omega, by go_num, rfl, by rw [HS.out]; exact HH.out.1, HH.out.2⟩
            case measure => simp [intOf]; omega
    · obtain rfl : k = n := by omega
      have HI := Lib.hid (And.intro hfwr (H.out.2.2.2.2.2.2.1.size))
      go_wp2_with fail
      go_ret
      exact ⟨Ao, co, rfl, I.out.1.mono fun i hi _ => Nat.le_trans HI.out.2 hi, HI.out.1⟩
end Go.Proofs.YtlmhphejgahfbaaGreatDoor
