/- Texts of this claim, one behind the other: Cut, RefL5, RefL6. -/
import Derived.Test.YtlmhphejgahfbaaGreatDoorMrowledgerdeletes29
import Derived.Test.YtlmhphejgahfbaaGreatDoorMrowledgerdeletes5
/- A block's inside, out of a function's body: so that a loop can be a theorem of its own. -/
set_option linter.unusedVariables false
set_option linter.unusedSimpArgs false
namespace Go.Proofs.YtlmhphejgahfbaaGreatDoor
open Go.RowKit

def find (n : Nat) : Code → Option Code
  | .seq a b => match find n a with | some c => some c | none => find n b
  | .cond _ a b => match find n a with | some c => some c | none => find n b
  | .block m c => if m == n then some c else find n c
  | .loop c => find n c
  | _ => none
def inner (c : Option Code) (n : Nat) : Code := match c with | some c => (match find n c with | some d => d | none => .skip) | none => .skip

/-- What a word's cell holds. -/
def oldU (w : World) (ad : Addr) : Int := match w.cell? ad with | some (.int _ x) => x | _ => 0
theorem keepU {w : World} {ad : Addr} {k : IntKind} {x : Int} (h : w.cell? ad = some (.int k x)) : w.cell? ad = some (.int k (oldU w ad)) := by unfold oldU; rw [h]
theorem keepS {w : World} {b k q : Nat} {v u : Value} (h : w.cell? ⟨b, q, none⟩ = some v) (hne : k ≠ q) : (w.setCell ⟨b, k, none⟩ u).cell? ⟨b, q, none⟩ = some v :=
  (World.cell?_setCell_other _ _ _ _ (by intro e; injection e with e1 e2; exact hne e2)).trans h
theorem keepF {w : World} {b k q : Nat} {u : Value} (h : w.frozen? ⟨b, q, none⟩ = false) : (w.setCell ⟨b, k, none⟩ u).frozen? ⟨b, q, none⟩ = false := by
  rw [World.frozen?_setCell]; exact h
end Go.Proofs.YtlmhphejgahfbaaGreatDoor
/- Reference 3 (sha): Sum: the schedule. -/
set_option linter.unusedVariables false
set_option linter.unusedSimpArgs false
namespace Go.Proofs.YtlmhphejgahfbaaGreatDoor
open Go.RowKit

set_option maxHeartbeats 4000000 in
set_option maxRecDepth 100000 in
theorem loop4 {Q : Exit → Act → World → Prop} {wo : World} {F : Nat → Prop} {wb a M c4 : Nat} {ad : Addr} {PD bk : Bs} {R0 : Nat → W32} (hw0 : Words wo wb 0 64 R0) (hR : Rd Ty.u8 wo F (some ad) PD) (hF : ¬ F wb) (hM : M = PD.length) (hMc : M ≤ c4) (hMi : M ≤ 3000000000) (hbk : (PD.drop a).take 64 = bk) (haM : a + 64 ≤ M)
    (u0 u1 u2 u3 u4 u5 u6 u7 u8 u9 u10 u11 u12 u13 u14 u15 u16 u17 u18 u19 u20 u21 u22 u23 u24 u25 u26 u27 u28 u29 u30 u31 u32 u33 u34 u35 u36 u37 u38 u39 u40 u41 u42 u43 u44 u45 u46 u47 u48 u49 u50 u51 u52 u53 u54 u55 u56 u57 u58 u59 u60 u61 u62 u63 u64 u65 u66 u67 u68 u69 u70 u71 u72 u73 u74 u75 u76 u77 u78 u79 u80 u81 u82 u83 u84 u85 u86 u87 u88 u89 u90 u91 u92 u93 u94 u95 u96 u97 u98 u99 u100 u101 u102 u103 u104 u105 u106 u107 u108 u109 u110 u111 u112 u113 u114 u115 u116 u117 u118 u119 u120 u121 u122 u123 u124 u125 u126 u127 u128 u129 u130 u131 u132 u133 u134 u135 u136 u137 u138 u139 u140 u141 u142 u143 u144 u145 u146 u147 u148 u149 u150 u151 u152 u153 u154 u155 u156 u157 u158 u159 u160 u161 u162 u163 u164 u165 u166 u167 u168 u169 u170 u171 u172 u173 u174 u175 u176 u177 u178 u179 u180 u181 u182 u183 u184 u185 u186 u187 u188 u189 u190 u191 u192 u193 u194 u195 u196 u197 u198 u199 u200 u201 u202 u203 u204 u205 u206 u207 u208 u209 u210 u211 u212 u213 u214 : Value)
    (hQ : ∀ (w' : World) (R : Nat → W32) (x8 x9 x10 x48 x49 x50 x51 x52 x53 x54 x55 x56 x57 x58 x59 x60 x61 x62 x63 x64 x65 x66 x67 x68 x69 x70 x71 x72 x73 x74 x75 x76 x77 x78 x79 x80 x81 x82 x83 x84 x85 x86 x87 x88 x89 x90 x91 x92 x93 x94 x95 x96 x97 x98 x99 x100 x101 x102 x103 x104 x105 : Value), Words w' wb 0 64 R → (∀ j, j < 64 → R j = wS bk j) → Fr (fun i => i = wb) wo w' → Q (.exit 4) ⟨(u0 :: u1 :: u2 :: u3 :: u4 :: .slice (some ad) M c4 :: .int .i64 (a : Int) :: .pointer (some ⟨wb, 0, none⟩) :: x8 :: x9 :: x10 :: u11 :: u12 :: u13 :: u14 :: u15 :: u16 :: u17 :: u18 :: u19 :: u20 :: u21 :: u22 :: u23 :: u24 :: u25 :: u26 :: u27 :: u28 :: u29 :: u30 :: u31 :: u32 :: u33 :: u34 :: u35 :: u36 :: u37 :: u38 :: u39 :: u40 :: u41 :: u42 :: u43 :: u44 :: u45 :: u46 :: u47 :: x48 :: x49 :: x50 :: x51 :: x52 :: x53 :: x54 :: x55 :: x56 :: x57 :: x58 :: x59 :: x60 :: x61 :: x62 :: x63 :: x64 :: x65 :: x66 :: x67 :: x68 :: x69 :: x70 :: x71 :: x72 :: x73 :: x74 :: x75 :: x76 :: x77 :: x78 :: x79 :: x80 :: x81 :: x82 :: x83 :: x84 :: x85 :: x86 :: x87 :: x88 :: x89 :: x90 :: x91 :: x92 :: x93 :: x94 :: x95 :: x96 :: x97 :: x98 :: x99 :: x100 :: x101 :: x102 :: x103 :: x104 :: x105 :: u106 :: u107 :: u108 :: u109 :: u110 :: u111 :: u112 :: u113 :: u114 :: u115 :: u116 :: u117 :: u118 :: u119 :: u120 :: u121 :: u122 :: u123 :: u124 :: u125 :: u126 :: u127 :: u128 :: u129 :: u130 :: u131 :: u132 :: u133 :: u134 :: u135 :: u136 :: u137 :: u138 :: u139 :: u140 :: u141 :: u142 :: u143 :: u144 :: u145 :: u146 :: u147 :: u148 :: u149 :: u150 :: u151 :: u152 :: u153 :: u154 :: u155 :: u156 :: u157 :: u158 :: u159 :: u160 :: u161 :: u162 :: u163 :: u164 :: u165 :: u166 :: u167 :: u168 :: u169 :: u170 :: u171 :: u172 :: u173 :: u174 :: u175 :: u176 :: u177 :: u178 :: u179 :: u180 :: u181 :: u182 :: u183 :: u184 :: u185 :: u186 :: u187 :: u188 :: u189 :: u190 :: u191 :: u192 :: u193 :: u194 :: u195 :: u196 :: u197 :: u198 :: u199 :: u200 :: u201 :: u202 :: u203 :: u204 :: u205 :: u206 :: u207 :: u208 :: u209 :: u210 :: u211 :: u212 :: u213 :: u214 :: []).toArray, []⟩ w') :
    (inner Tryz.f43.body 4).wp Tryz.prog Q ⟨(u0 :: u1 :: u2 :: u3 :: u4 :: .slice (some ad) M c4 :: .int .i64 (a : Int) :: .pointer (some ⟨wb, 0, none⟩) :: .int .i64 0 :: u9 :: u10 :: u11 :: u12 :: u13 :: u14 :: u15 :: u16 :: u17 :: u18 :: u19 :: u20 :: u21 :: u22 :: u23 :: u24 :: u25 :: u26 :: u27 :: u28 :: u29 :: u30 :: u31 :: u32 :: u33 :: u34 :: u35 :: u36 :: u37 :: u38 :: u39 :: u40 :: u41 :: u42 :: u43 :: u44 :: u45 :: u46 :: u47 :: u48 :: u49 :: u50 :: u51 :: u52 :: u53 :: u54 :: u55 :: u56 :: u57 :: u58 :: u59 :: u60 :: u61 :: u62 :: u63 :: u64 :: u65 :: u66 :: u67 :: u68 :: u69 :: u70 :: u71 :: u72 :: u73 :: u74 :: u75 :: u76 :: u77 :: u78 :: u79 :: u80 :: u81 :: u82 :: u83 :: u84 :: u85 :: u86 :: u87 :: u88 :: u89 :: u90 :: u91 :: u92 :: u93 :: u94 :: u95 :: u96 :: u97 :: u98 :: u99 :: u100 :: u101 :: u102 :: u103 :: u104 :: u105 :: u106 :: u107 :: u108 :: u109 :: u110 :: u111 :: u112 :: u113 :: u114 :: u115 :: u116 :: u117 :: u118 :: u119 :: u120 :: u121 :: u122 :: u123 :: u124 :: u125 :: u126 :: u127 :: u128 :: u129 :: u130 :: u131 :: u132 :: u133 :: u134 :: u135 :: u136 :: u137 :: u138 :: u139 :: u140 :: u141 :: u142 :: u143 :: u144 :: u145 :: u146 :: u147 :: u148 :: u149 :: u150 :: u151 :: u152 :: u153 :: u154 :: u155 :: u156 :: u157 :: u158 :: u159 :: u160 :: u161 :: u162 :: u163 :: u164 :: u165 :: u166 :: u167 :: u168 :: u169 :: u170 :: u171 :: u172 :: u173 :: u174 :: u175 :: u176 :: u177 :: u178 :: u179 :: u180 :: u181 :: u182 :: u183 :: u184 :: u185 :: u186 :: u187 :: u188 :: u189 :: u190 :: u191 :: u192 :: u193 :: u194 :: u195 :: u196 :: u197 :: u198 :: u199 :: u200 :: u201 :: u202 :: u203 :: u204 :: u205 :: u206 :: u207 :: u208 :: u209 :: u210 :: u211 :: u212 :: u213 :: u214 :: []).toArray, []⟩ wo := by
  have ha0 : (0 : Int) ≤ (a : Int) := Int.natCast_nonneg _
  have hMci : (M : Int) ≤ (c4 : Int) := by omega
  have hM3 : (M : Int) ≤ 3000000000 := by omega
  have hfi : (a : Int) + 64 ≤ (M : Int) := by omega
  have hbl : bk.length = 64 := by rw [← hbk]; simp; omega
  have HI := Lib.hid (And.intro hw0 (And.intro hR (And.intro hF (And.intro hbk (And.intro hbl hQ)))))
  clear hw0 hR hF hM hMc hMi hbk haM hbl hQ
  generalize hc : inner Tryz.f43.body 4 = c
  simp only [Tryz.f43, inner, find, Nat.reduceBEq, Bool.false_eq_true, ↓reduceIte, beq_self_eq_true] at hc
  subst hc
  go_loopw [8] (fun s wr => ∃ k : Nat, k ≤ 64 ∧ s = .int .i64 (k : Int) ∧ Hid (∃ R, Words wr wb 0 64 R ∧ (∀ j, j < k → R j = wS bk j) ∧ Fr (fun i => i = wb) wo wr)) (fun s _ => 64 - (intOf s).toNat)
  case atStart => exact ⟨0, by omega, rfl, _, HI.out.1, fun j hj => absurd hj (by omega), Fr.refl _ _⟩
  case round =>
    obtain ⟨k, hk, rfl, J⟩ := hrel
    obtain ⟨R, hRw, hRk, hRf⟩ := J.out
    clear J
    have hk0 : (0 : Int) ≤ (k : Int) := Int.natCast_nonneg _
    by_cases hlt : k < 64
    · have hk1 : (k : Int) < 64 := by omega
      have c0 := hRw.cell hlt
      rw [Nat.zero_add] at c0
      have z0 := hRw.free k
      have a0 := add0 wb k
      by_cases h16 : k < 16
      · have h16i : (k : Int) < 16 := by omega
        have hKK := Lib.hid (And.intro hRw (And.intro hRk hRf))
        clear hRw hRk hRf
        have hrd : Rd Ty.u8 wr (fun _ => True) (some (ad.add (a + 4 * k))) (seg bk k) := by
          have h1 := ((HI.out.2.1.fr hKK.out.2.2 (fun k hk e => HI.out.2.2.1 (e ▸ hk))).drop (a + 4 * k)).take 4
          rw [show (a + 4 * k) * Ty.u8.sz = a + 4 * k from Nat.mul_one _] at h1
          have e : (PD.drop (a + 4 * k)).take 4 = seg bk k := by
            unfold seg
            rw [← HI.out.2.2.2.1, List.drop_take, List.drop_drop, List.take_take, Nat.min_eq_left (by omega)]
          rw [e] at h1
          exact h1.mono fun _ _ _ => trivial
        have hsl : (seg bk k).length = 4 := by unfold seg; simp; have := HI.out.2.2.2.2.1; omega
        have hread := read_ok (c := c4 - (a + 4 * k)) hrd (by omega)
        rw [hsl] at hread
        obtain ⟨x, hx⟩ : ∃ x, BitVec.ofNat 32 (rdN (seg bk k)) = x := ⟨_, rfl⟩
        have hxU : (rdN (seg bk k) : Int) = U x := by
          have := rdN_lt (seg bk k)
          rw [hsl] at this
          unfold U
          rw [← hx, BitVec.toNat_ofNat]
          omega
        rw [hxU] at hread
        have hwx : wS bk k = x := by rw [wS_first _ h16, hx]
        have qw := U_wrap x
        have HR := Lib.hid (And.intro hread (And.intro hwx (hKK.out.1.set hlt x)))
        clear hread hwx hxU hx hsl hrd
        go_wp2_with fail
        refine HR.out.1.mono ?_
        rintro e5 w5 ⟨rfl, m5, rfl⟩
        obtain ⟨w6, hw6⟩ : ∃ w6, w6 = wr.drewN m5 := ⟨_, rfl⟩
        have f6 : Fr No wr w6 := by rw [hw6]; exact (Fr.refl No wr).drewN _
        rw [← hw6]
        have c1 := f6.cell c0 (fun f => f)
        have hRw6 := hKK.out.1.fr0 f6
        have z1 := hRw6.free k
        have HK6 := Lib.hid (And.intro (hRw6.set hlt x) (hKK.out.2.2.trans (f6.mono fun _ _ f => f.elim)))
        clear hw6 c0 hRw6 f6
        go_wp2_with fail
        go_roundw
        case rel =>
          refine ⟨k + 1, by omega, by go_num, upd R k x, by have := HK6.out.1; rwa [Nat.zero_add] at this, fun j hj => ?_, HK6.out.2.set _ (.inl rfl) _⟩
          unfold upd
          by_cases e : j = k
          · subst e; rw [if_pos rfl, HR.out.2.1]
          · rw [if_neg e]; exact hKK.out.2.1 j (by omega)
        case measure => simp [intOf]; omega
      · have h16i : ¬ (k : Int) < 16 := by omega
        obtain ⟨q15, hq15⟩ : ∃ q, k - 15 = q := ⟨_, rfl⟩
        obtain ⟨q2, hq2⟩ : ∃ q, k - 2 = q := ⟨_, rfl⟩
        obtain ⟨q16, hq16⟩ : ∃ q, k - 16 = q := ⟨_, rfl⟩
        obtain ⟨q7, hq7⟩ : ∃ q, k - 7 = q := ⟨_, rfl⟩
        have l15 : q15 < 64 := by omega
        have l2 : q2 < 64 := by omega
        have l16 : q16 < 64 := by omega
        have l7 : q7 < 64 := by omega
        have e15 : (k : Int) - 15 = (q15 : Int) := by omega
        have e2 : (k : Int) - 2 = (q2 : Int) := by omega
        have e16 : (k : Int) - 16 = (q16 : Int) := by omega
        have e7 : (k : Int) - 7 = (q7 : Int) := by omega
        have i15 : (0 : Int) ≤ (q15 : Int) ∧ (q15 : Int) < 64 := by omega
        have i2 : (0 : Int) ≤ (q2 : Int) ∧ (q2 : Int) < 64 := by omega
        have i16 : (0 : Int) ≤ (q16 : Int) ∧ (q16 : Int) < 64 := by omega
        have i7 : (0 : Int) ≤ (q7 : Int) ∧ (q7 : Int) < 64 := by omega
        obtain ⟨i15a, i15b⟩ := i15
        obtain ⟨i2a, i2b⟩ := i2
        obtain ⟨i16a, i16b⟩ := i16
        obtain ⟨i7a, i7b⟩ := i7
        have s15 : IntKind.i64.wrap (q15 : Int) = (q15 : Int) := IntWalk.i64_in _ (by omega)
        have s2 : IntKind.i64.wrap (q2 : Int) = (q2 : Int) := IntWalk.i64_in _ (by omega)
        have s16 : IntKind.i64.wrap (q16 : Int) = (q16 : Int) := IntWalk.i64_in _ (by omega)
        have s7 : IntKind.i64.wrap (q7 : Int) = (q7 : Int) := IntWalk.i64_in _ (by omega)
        have c15 := hRw.cell l15
        have c2 := hRw.cell l2
        have c16 := hRw.cell l16
        have c7 := hRw.cell l7
        rw [Nat.zero_add] at c15 c2 c16 c7
        have a15 := add0 wb q15
        have a2 := add0 wb q2
        have a16 := add0 wb q16
        have a7 := add0 wb q7
        rw [hRk q15 (by omega)] at c15
        rw [hRk q2 (by omega)] at c2
        rw [hRk q16 (by omega)] at c16
        rw [hRk q7 (by omega)] at c7
        obtain ⟨x15, hx15⟩ : ∃ x, wS bk q15 = x := ⟨_, rfl⟩
        obtain ⟨x2, hx2⟩ : ∃ x, wS bk q2 = x := ⟨_, rfl⟩
        obtain ⟨x16, hx16⟩ : ∃ x, wS bk q16 = x := ⟨_, rfl⟩
        obtain ⟨x7, hx7⟩ : ∃ x, wS bk q7 = x := ⟨_, rfl⟩
        rw [hx15] at c15
        rw [hx2] at c2
        rw [hx16] at c16
        rw [hx7] at c7
        obtain ⟨r7, hr7⟩ : ∃ r, rr x15 7 = r := ⟨_, rfl⟩
        obtain ⟨r18, hr18⟩ : ∃ r, rr x15 18 = r := ⟨_, rfl⟩
        obtain ⟨r17, hr17⟩ : ∃ r, rr x2 17 = r := ⟨_, rfl⟩
        obtain ⟨r19, hr19⟩ : ∃ r, rr x2 19 = r := ⟨_, rfl⟩
        have hT7 := Lib.hid (turn_ok x15 r7 7 7 rfl (by decide) hr7)
        have hT18 := Lib.hid (turn_ok x15 r18 18 18 rfl (by decide) hr18)
        have hT17 := Lib.hid (turn_ok x2 r17 17 17 rfl (by decide) hr17)
        have hT19 := Lib.hid (turn_ok x2 r19 19 19 rfl (by decide) hr19)
        have q3 := shift_shr x15 3 3 rfl (by decide)
        have q10 := shift_shr x2 10 10 rfl (by decide)
        obtain ⟨v1, hv1⟩ : ∃ v, x16 + x7 = v := ⟨_, rfl⟩
        obtain ⟨v2, hv2⟩ : ∃ v, r7 ^^^ r18 = v := ⟨_, rfl⟩
        obtain ⟨v3, hv3⟩ : ∃ v, v2 ^^^ (x15 >>> 3) = v := ⟨_, rfl⟩
        obtain ⟨v4, hv4⟩ : ∃ v, v1 + v3 = v := ⟨_, rfl⟩
        obtain ⟨v5, hv5⟩ : ∃ v, r17 ^^^ r19 = v := ⟨_, rfl⟩
        obtain ⟨v6, hv6⟩ : ∃ v, v5 ^^^ (x2 >>> 10) = v := ⟨_, rfl⟩
        obtain ⟨v7, hv7⟩ : ∃ v, v4 + v6 = v := ⟨_, rfl⟩
        have d1 := U_add x16 x7
        have d2 := U_xor r7 r18
        have d3 := U_xor v2 (x15 >>> 3)
        have d4 := U_add v1 v3
        have d5 := U_xor r17 r19
        have d6 := U_xor v5 (x2 >>> 10)
        have d7 := U_add v4 v6
        rw [hv1] at d1
        rw [hv2] at d2
        rw [hv3] at d3
        rw [hv4] at d4
        rw [hv5] at d5
        rw [hv6] at d6
        rw [hv7] at d7
        have hnew : wS bk k = v7 := by
          rw [wS_next bk (by omega), hq16, hq7, hq15, hq2, hx16, hx7, hx15, hx2]
          unfold sg0 sg1
          rw [hr7, hr18, hr17, hr19, hv1, hv2, hv3, hv4, hv5, hv6, hv7]
        have HN := Lib.hid (And.intro hnew (And.intro hRw (And.intro hRk hRf)))
        clear hnew hRw hRk hRf hr7 hr18 hr17 hr19 hv1 hv2 hv3 hv4 hv5 hv6 hv7 hx15 hx2 hx16 hx7 hq15 hq2 hq16 hq7 l15 l2 l16 l7
        go_wp2_with fail
        go_quiet (fail)
        go_wp2_with fail
        obtain ⟨W, hW⟩ : ∃ W, W = wr.drewN nq := ⟨_, rfl⟩
        have HW := Lib.hid (show Fr No wr W by rw [hW]; exact (Fr.refl No wr).drewN _)
        have c0 := HW.out.cell c0 (fun f => f)
        have c16 := HW.out.cell c16 (fun f => f)
        have c7 := HW.out.cell c7 (fun f => f)
        have z0 := (HN.out.2.1.fr0 HW.out).free k
        rw [← hW]
        clear hW
        have n16 : k ≠ q16 := by omega
        have n7 : k ≠ q7 := by omega
        go_region_held3 (fun w' => w'.cell? ⟨wb, k, none⟩ = some (.int .u32 (oldU w' ⟨wb, k, none⟩)) ∧ w'.cell? ⟨wb, q16, none⟩ = some (.int .u32 (U x16)) ∧ w'.cell? ⟨wb, q7, none⟩ = some (.int .u32 (U x7)) ∧ w'.frozen? ⟨wb, k, none⟩ = false)
          (first
            | exact ⟨keepU c0, c16, c7, z0⟩
            | exact ⟨keepU (World.cell?_setCell_same _ _ _ c0), keepS c16 n16, keepS c7 n7, keepF z0⟩)
          (first
            | (go_at_call_of 96 (Value.int IntKind.i64 7); refine (hT7.out _).mono ?_; rintro e1 w1 ⟨rfl, m1, rfl⟩)
            | (go_at_call_of 96 (Value.int IntKind.i64 18); refine (hT18.out _).mono ?_; rintro e1 w1 ⟨rfl, m1, rfl⟩)
            | (go_at_call_of 96 (Value.int IntKind.i64 17); refine (hT17.out _).mono ?_; rintro e1 w1 ⟨rfl, m1, rfl⟩)
            | (go_at_call_of 96 (Value.int IntKind.i64 19); refine (hT19.out _).mono ?_; rintro e1 w1 ⟨rfl, m1, rfl⟩))
        all_goals
          go_wp2_with fail
          go_roundw
          case rel =>
            refine ⟨k + 1, by omega, by go_num, upd R k v7, ?_, ?_, ?_⟩
            · have h1 := HN.out.2.1.fr0 HW.out
              have h2 : ∀ m, Words ((W.drewN m).setCell ⟨wb, k, none⟩ (.int .u32 (U v7))) wb 0 64 (upd R k v7) := fun m => by
                have := (h1.fr0 ((Fr.refl No W).drewN m)).set hlt v7
                rwa [Nat.zero_add] at this
              exact h2 _
            · intro j hj
              unfold upd
              by_cases e : j = k
              · subst e; rw [if_pos rfl, HN.out.1]
              · rw [if_neg e]; exact HN.out.2.2.1 j (by omega)
            · exact ((HN.out.2.2.2.trans (HW.out.mono fun _ _ f => f.elim)).drewN _).set _ (.inl rfl) _
          case measure => simp [intOf]; omega
    · obtain rfl : k = 64 := by omega
      have HJ := Lib.hid (And.intro hRw (And.intro hRk hRf))
      clear hRw hRk hRf
      go_wp2_with fail
      exact HI.out.2.2.2.2.2 _ R _ _ _ _ _ _ _ _ _ _ _ _ _ _ _ _ _ _ _ _ _ _ _ _ _ _ _ _ _ _ _ _ _ _ _ _ _ _ _ _ _ _ _ _ _ _ _ _ _ _ _ _ _ _ _ _ _ _ _ _ _ HJ.out.1 HJ.out.2.1 HJ.out.2.2
end Go.Proofs.YtlmhphejgahfbaaGreatDoor
/- Reference 3 (sha): Sum: the rounds. -/
set_option linter.unusedVariables false
set_option linter.unusedSimpArgs false
namespace Go.Proofs.YtlmhphejgahfbaaGreatDoor
open Go.RowKit

/-- The words moved up, from the last one down to j. -/
def shifted (S : Nat → W32) (j : Nat) : Nat → W32 := fun i => if j < i then S (i - 1) else S i

set_option maxHeartbeats 4000000 in
set_option maxRecDepth 100000 in
theorem loop6 {Q : Exit → Act → World → Prop} {wo : World} {kb wb sb : Nat} {bk : Bs} {Hs R0 : Nat → W32} (hs : Words wo sb 0 8 Hs) (hk : Words wo kb 0 64 Kc) (hw : Words wo wb 0 64 R0) (hR : ∀ j, j < 64 → R0 j = wS bk j) (n1 : sb ≠ kb) (n2 : sb ≠ wb)
    (u0 u1 u2 u3 u4 u5 u6 u7 u8 u9 u10 u11 u12 u13 u14 u15 u16 u17 u18 u19 u20 u21 u22 u23 u24 u25 u26 u27 u28 u29 u30 u31 u32 u33 u34 u35 u36 u37 u38 u39 u40 u41 u42 u43 u44 u45 u46 u47 u48 u49 u50 u51 u52 u53 u54 u55 u56 u57 u58 u59 u60 u61 u62 u63 u64 u65 u66 u67 u68 u69 u70 u71 u72 u73 u74 u75 u76 u77 u78 u79 u80 u81 u82 u83 u84 u85 u86 u87 u88 u89 u90 u91 u92 u93 u94 u95 u96 u97 u98 u99 u100 u101 u102 u103 u104 u105 u106 u107 u108 u109 u110 u111 u112 u113 u114 u115 u116 u117 u118 u119 u120 u121 u122 u123 u124 u125 u126 u127 u128 u129 u130 u131 u132 u133 u134 u135 u136 u137 u138 u139 u140 u141 u142 u143 u144 u145 u146 u147 u148 u149 u150 u151 u152 u153 u154 u155 u156 u157 u158 u159 u160 u161 u162 u163 u164 u165 u166 u167 u168 u169 u170 u171 u172 u173 u174 u175 u176 u177 u178 u179 u180 u181 u182 u183 u184 u185 u186 u187 u188 u189 u190 u191 u192 u193 u194 u195 u196 u197 u198 u199 u200 u201 u202 u203 u204 u205 u206 u207 u208 u209 u210 u211 u212 u213 u214 : Value)
    (hQ : ∀ (w' : World) (x12 x13 x14 x15 x16 x17 x18 x19 x107 x108 x109 x110 x111 x112 x113 x114 x115 x116 x117 x118 x119 x120 x121 x122 x123 x124 x125 x126 x127 x128 x129 x130 x131 x132 x133 x134 x135 x136 x137 x138 x139 x140 x141 x142 x143 x144 x145 x146 x147 x148 x149 x150 x151 x152 x153 x154 x155 x156 x157 x158 x159 x160 x161 x162 x163 x164 x165 x166 x167 x168 x169 x170 x171 x172 x173 x174 x175 x176 x177 x178 x179 x180 x181 x182 x183 x184 x185 x186 x187 x188 x189 : Value), Words w' sb 0 8 (stAt Hs bk 64) → Fr (fun i => i = sb) wo w' → Q (.exit 6) ⟨(u0 :: u1 :: u2 :: .pointer (some ⟨kb, 0, none⟩) :: u4 :: u5 :: u6 :: .pointer (some ⟨wb, 0, none⟩) :: u8 :: u9 :: u10 :: .pointer (some ⟨sb, 0, none⟩) :: x12 :: x13 :: x14 :: x15 :: x16 :: x17 :: x18 :: x19 :: u20 :: u21 :: u22 :: u23 :: u24 :: u25 :: u26 :: u27 :: u28 :: u29 :: u30 :: u31 :: u32 :: u33 :: u34 :: u35 :: u36 :: u37 :: u38 :: u39 :: u40 :: u41 :: u42 :: u43 :: u44 :: u45 :: u46 :: u47 :: u48 :: u49 :: u50 :: u51 :: u52 :: u53 :: u54 :: u55 :: u56 :: u57 :: u58 :: u59 :: u60 :: u61 :: u62 :: u63 :: u64 :: u65 :: u66 :: u67 :: u68 :: u69 :: u70 :: u71 :: u72 :: u73 :: u74 :: u75 :: u76 :: u77 :: u78 :: u79 :: u80 :: u81 :: u82 :: u83 :: u84 :: u85 :: u86 :: u87 :: u88 :: u89 :: u90 :: u91 :: u92 :: u93 :: u94 :: u95 :: u96 :: u97 :: u98 :: u99 :: u100 :: u101 :: u102 :: u103 :: u104 :: u105 :: u106 :: x107 :: x108 :: x109 :: x110 :: x111 :: x112 :: x113 :: x114 :: x115 :: x116 :: x117 :: x118 :: x119 :: x120 :: x121 :: x122 :: x123 :: x124 :: x125 :: x126 :: x127 :: x128 :: x129 :: x130 :: x131 :: x132 :: x133 :: x134 :: x135 :: x136 :: x137 :: x138 :: x139 :: x140 :: x141 :: x142 :: x143 :: x144 :: x145 :: x146 :: x147 :: x148 :: x149 :: x150 :: x151 :: x152 :: x153 :: x154 :: x155 :: x156 :: x157 :: x158 :: x159 :: x160 :: x161 :: x162 :: x163 :: x164 :: x165 :: x166 :: x167 :: x168 :: x169 :: x170 :: x171 :: x172 :: x173 :: x174 :: x175 :: x176 :: x177 :: x178 :: x179 :: x180 :: x181 :: x182 :: x183 :: x184 :: x185 :: x186 :: x187 :: x188 :: x189 :: u190 :: u191 :: u192 :: u193 :: u194 :: u195 :: u196 :: u197 :: u198 :: u199 :: u200 :: u201 :: u202 :: u203 :: u204 :: u205 :: u206 :: u207 :: u208 :: u209 :: u210 :: u211 :: u212 :: u213 :: u214 :: []).toArray, []⟩ w') :
    (inner Tryz.f43.body 6).wp Tryz.prog Q ⟨(u0 :: u1 :: u2 :: .pointer (some ⟨kb, 0, none⟩) :: u4 :: u5 :: u6 :: .pointer (some ⟨wb, 0, none⟩) :: u8 :: u9 :: u10 :: .pointer (some ⟨sb, 0, none⟩) :: .int .i64 0 :: u13 :: u14 :: u15 :: u16 :: u17 :: u18 :: u19 :: u20 :: u21 :: u22 :: u23 :: u24 :: u25 :: u26 :: u27 :: u28 :: u29 :: u30 :: u31 :: u32 :: u33 :: u34 :: u35 :: u36 :: u37 :: u38 :: u39 :: u40 :: u41 :: u42 :: u43 :: u44 :: u45 :: u46 :: u47 :: u48 :: u49 :: u50 :: u51 :: u52 :: u53 :: u54 :: u55 :: u56 :: u57 :: u58 :: u59 :: u60 :: u61 :: u62 :: u63 :: u64 :: u65 :: u66 :: u67 :: u68 :: u69 :: u70 :: u71 :: u72 :: u73 :: u74 :: u75 :: u76 :: u77 :: u78 :: u79 :: u80 :: u81 :: u82 :: u83 :: u84 :: u85 :: u86 :: u87 :: u88 :: u89 :: u90 :: u91 :: u92 :: u93 :: u94 :: u95 :: u96 :: u97 :: u98 :: u99 :: u100 :: u101 :: u102 :: u103 :: u104 :: u105 :: u106 :: u107 :: u108 :: u109 :: u110 :: u111 :: u112 :: u113 :: u114 :: u115 :: u116 :: u117 :: u118 :: u119 :: u120 :: u121 :: u122 :: u123 :: u124 :: u125 :: u126 :: u127 :: u128 :: u129 :: u130 :: u131 :: u132 :: u133 :: u134 :: u135 :: u136 :: u137 :: u138 :: u139 :: u140 :: u141 :: u142 :: u143 :: u144 :: u145 :: u146 :: u147 :: u148 :: u149 :: u150 :: u151 :: u152 :: u153 :: u154 :: u155 :: u156 :: u157 :: u158 :: u159 :: u160 :: u161 :: u162 :: u163 :: u164 :: u165 :: u166 :: u167 :: u168 :: u169 :: u170 :: u171 :: u172 :: u173 :: u174 :: u175 :: u176 :: u177 :: u178 :: u179 :: u180 :: u181 :: u182 :: u183 :: u184 :: u185 :: u186 :: u187 :: u188 :: u189 :: u190 :: u191 :: u192 :: u193 :: u194 :: u195 :: u196 :: u197 :: u198 :: u199 :: u200 :: u201 :: u202 :: u203 :: u204 :: u205 :: u206 :: u207 :: u208 :: u209 :: u210 :: u211 :: u212 :: u213 :: u214 :: []).toArray, []⟩ wo := by
  have HI := Lib.hid (And.intro hs (And.intro hk (And.intro hw (And.intro hR (And.intro n1 (And.intro n2 hQ))))))
  clear hs hk hw hR hQ n1 n2
  generalize hc : inner Tryz.f43.body 6 = c
  simp only [Tryz.f43, inner, find, Nat.reduceBEq, Bool.false_eq_true, ↓reduceIte, beq_self_eq_true] at hc
  subst hc
  go_loopw [12] (fun s wr => ∃ k : Nat, k ≤ 64 ∧ s = .int .i64 (k : Int) ∧ Hid (Words wr sb 0 8 (stAt Hs bk k) ∧ Fr (fun i => i = sb) wo wr)) (fun s _ => 64 - (intOf s).toNat)
  case atStart => exact ⟨0, by omega, rfl, HI.out.1, Fr.refl _ _⟩
  case round =>
    obtain ⟨k, hk, rfl, J⟩ := hrel
    have hk0 : (0 : Int) ≤ (k : Int) := Int.natCast_nonneg _
    by_cases hlt : k < 64
    · have hk1 : (k : Int) < 64 := by omega
      obtain ⟨S, hS⟩ : ∃ S, stAt Hs bk k = S := ⟨_, rfl⟩
      have hSW := J.out.1
      rw [hS] at hSW
      have c0 := hSW.cell (j := 0) (by decide)
      have c1 := hSW.cell (j := 1) (by decide)
      have c2 := hSW.cell (j := 2) (by decide)
      have c4 := hSW.cell (j := 4) (by decide)
      have c5 := hSW.cell (j := 5) (by decide)
      have c6 := hSW.cell (j := 6) (by decide)
      have c7 := hSW.cell (j := 7) (by decide)
      have ck := (HI.out.2.1.fr J.out.2 (fun e => HI.out.2.2.2.2.1 e.symm)).cell hlt
      have cw := (HI.out.2.2.1.fr J.out.2 (fun e => HI.out.2.2.2.2.2.1 e.symm)).cell hlt
      rw [HI.out.2.2.2.1 k hlt] at cw
      rw [Nat.zero_add] at c0 c1 c2 c4 c5 c6 c7 ck cw
      have ak := add0 kb k
      have aw := add0 wb k
      obtain ⟨s0, hs0⟩ : ∃ x, S 0 = x := ⟨_, rfl⟩
      obtain ⟨s1, hs1⟩ : ∃ x, S 1 = x := ⟨_, rfl⟩
      obtain ⟨s2, hs2⟩ : ∃ x, S 2 = x := ⟨_, rfl⟩
      obtain ⟨s4, hs4⟩ : ∃ x, S 4 = x := ⟨_, rfl⟩
      obtain ⟨s5, hs5⟩ : ∃ x, S 5 = x := ⟨_, rfl⟩
      obtain ⟨s6, hs6⟩ : ∃ x, S 6 = x := ⟨_, rfl⟩
      obtain ⟨s7, hs7⟩ : ∃ x, S 7 = x := ⟨_, rfl⟩
      obtain ⟨kk, hkk⟩ : ∃ x, Kc k = x := ⟨_, rfl⟩
      obtain ⟨ww, hww⟩ : ∃ x, wS bk k = x := ⟨_, rfl⟩
      rw [hs0] at c0
      rw [hs1] at c1
      rw [hs2] at c2
      rw [hs4] at c4
      rw [hs5] at c5
      rw [hs6] at c6
      rw [hs7] at c7
      rw [hkk] at ck
      rw [hww] at cw
      obtain ⟨p1, hp1⟩ : ∃ x, s4 &&& s5 = x := ⟨_, rfl⟩
      obtain ⟨ne, hne⟩ : ∃ x, ~~~s4 = x := ⟨_, rfl⟩
      obtain ⟨p2, hp2⟩ : ∃ x, ne &&& s6 = x := ⟨_, rfl⟩
      obtain ⟨ch, hch⟩ : ∃ x, p1 ||| p2 = x := ⟨_, rfl⟩
      obtain ⟨m1, hm1⟩ : ∃ x, s0 &&& s1 = x := ⟨_, rfl⟩
      obtain ⟨m2, hm2⟩ : ∃ x, s0 &&& s2 = x := ⟨_, rfl⟩
      obtain ⟨m3, hm3⟩ : ∃ x, m1 ^^^ m2 = x := ⟨_, rfl⟩
      obtain ⟨m4, hm4⟩ : ∃ x, s1 &&& s2 = x := ⟨_, rfl⟩
      obtain ⟨mo, hmo⟩ : ∃ x, m3 ^^^ m4 = x := ⟨_, rfl⟩
      obtain ⟨r6, hr6⟩ : ∃ x, rr s4 6 = x := ⟨_, rfl⟩
      obtain ⟨r11, hr11⟩ : ∃ x, rr s4 11 = x := ⟨_, rfl⟩
      obtain ⟨r25, hr25⟩ : ∃ x, rr s4 25 = x := ⟨_, rfl⟩
      obtain ⟨t1, ht1⟩ : ∃ x, r6 ^^^ r11 = x := ⟨_, rfl⟩
      obtain ⟨t2, ht2⟩ : ∃ x, t1 ^^^ r25 = x := ⟨_, rfl⟩
      obtain ⟨x1, hx1⟩ : ∃ x, s7 + t2 = x := ⟨_, rfl⟩
      obtain ⟨x2, hx2⟩ : ∃ x, x1 + ch = x := ⟨_, rfl⟩
      obtain ⟨x3, hx3⟩ : ∃ x, x2 + kk = x := ⟨_, rfl⟩
      obtain ⟨x4, hx4⟩ : ∃ x, x3 + ww = x := ⟨_, rfl⟩
      obtain ⟨q2, hq2⟩ : ∃ x, rr s0 2 = x := ⟨_, rfl⟩
      obtain ⟨q13, hq13⟩ : ∃ x, rr s0 13 = x := ⟨_, rfl⟩
      obtain ⟨q22, hq22⟩ : ∃ x, rr s0 22 = x := ⟨_, rfl⟩
      obtain ⟨t3, ht3⟩ : ∃ x, q2 ^^^ q13 = x := ⟨_, rfl⟩
      obtain ⟨t4, ht4⟩ : ∃ x, t3 ^^^ q22 = x := ⟨_, rfl⟩
      obtain ⟨y, hy⟩ : ∃ x, t4 + mo = x := ⟨_, rfl⟩
      have d1 := U_and s4 s5
      have d2 := U_not s4
      have d2b := U_not' s4
      have d2c := U_wrap ne
      have d3 := U_and ne s6
      have d4 := U_or p1 p2
      have d5 := U_and s0 s1
      have d6 := U_and s0 s2
      have d7 := U_xor m1 m2
      have d8 := U_and s1 s2
      have d9 := U_xor m3 m4
      have d10 := U_xor r6 r11
      have d11 := U_xor t1 r25
      have d12 := U_add s7 t2
      have d13 := U_add x1 ch
      have d14 := U_add x2 kk
      have d15 := U_add x3 ww
      have d16 := U_xor q2 q13
      have d17 := U_xor t3 q22
      have d18 := U_add t4 mo
      rw [hp1] at d1
      rw [hne] at d2 d2b
      rw [hp2] at d3
      rw [hch] at d4
      rw [hm1] at d5
      rw [hm2] at d6
      rw [hm3] at d7
      rw [hm4] at d8
      rw [hmo] at d9
      rw [ht1] at d10
      rw [ht2] at d11
      rw [hx1] at d12
      rw [hx2] at d13
      rw [hx3] at d14
      rw [hx4] at d15
      rw [ht3] at d16
      rw [ht4] at d17
      rw [hy] at d18
      have hT6 := Lib.hid (turn_ok s4 r6 6 6 rfl (by decide) hr6)
      have hT11 := Lib.hid (turn_ok s4 r11 11 11 rfl (by decide) hr11)
      have hT25 := Lib.hid (turn_ok s4 r25 25 25 rfl (by decide) hr25)
      have hT2 := Lib.hid (turn_ok s0 q2 2 2 rfl (by decide) hq2)
      have hT13 := Lib.hid (turn_ok s0 q13 13 13 rfl (by decide) hq13)
      have hT22 := Lib.hid (turn_ok s0 q22 22 22 rfl (by decide) hq22)
      have hrT : rT S kk ww = x4 := by
        unfold rT SG1
        rw [hs4, hs5, hs6, hs7, ← choice_eq, hp1, hne, hp2, hch, hr6, hr11, hr25, ht1, ht2, hx1, hx2, hx3, hx4]
      have hrU : rU S = y := by
        unfold rU SG0
        rw [hs0, hs1, hs2, ← most_eq, hm1, hm2, hm3, hm4, hmo, hq2, hq13, hq22, ht3, ht4, hy]
      have hst : stAt Hs bk (k + 1) = rStep S kk ww := by
        show rStep (stAt Hs bk k) (Kc k) (wS bk k) = _
        rw [hS, hkk, hww]
      have HN := Lib.hid (And.intro hrT (And.intro hrU (And.intro hst (And.intro hSW J.out.2))))
      clear hrT hrU hst hSW J hS hs0 hs1 hs2 hs4 hs5 hs6 hs7 hkk hww hp1 hne hp2 hch hm1 hm2 hm3 hm4 hmo hr6 hr11 hr25 ht1 ht2 hx1 hx2 hx3 hx4 hq2 hq13 hq22 ht3 ht4 hy
      go_wp2_with fail
      go_quiet (fail)
      go_wp2_with fail
      obtain ⟨W, hW⟩ : ∃ W, W = wr.drewN nq := ⟨_, rfl⟩
      have HW := Lib.hid (show Fr No wr W by rw [hW]; exact (Fr.refl No wr).drewN _)
      have c7 := HW.out.cell c7 (fun f => f)
      have ck := HW.out.cell ck (fun f => f)
      have cw := HW.out.cell cw (fun f => f)
      rw [← hW]
      clear hW c0 c1 c2 c4 c5 c6
      go_quiet ((first
        | (go_at_call_of 96 (Value.int IntKind.i64 6); exact Calls.quiet_of (hT6.out _))
        | (go_at_call_of 96 (Value.int IntKind.i64 11); exact Calls.quiet_of (hT11.out _))
        | (go_at_call_of 96 (Value.int IntKind.i64 25); exact Calls.quiet_of (hT25.out _))))
      go_wp2_with (first
        | (go_at_call_of 96 (Value.int IntKind.i64 2); refine (hT2.out _).mono ?_; rintro e1 w1 ⟨rfl, m1, rfl⟩)
        | (go_at_call_of 96 (Value.int IntKind.i64 13); refine (hT13.out _).mono ?_; rintro e1 w1 ⟨rfl, m1, rfl⟩)
        | (go_at_call_of 96 (Value.int IntKind.i64 22); refine (hT22.out _).mono ?_; rintro e1 w1 ⟨rfl, m1, rfl⟩))
      have hfd : ∀ m, Fr No wr (W.drewN m) := fun m => HW.out.drewN m
      generalize hw5 : W.drewN _ = w5
      have hf5 : Fr No wr w5 := by rw [← hw5]; exact hfd _
      clear hw5
      have H5 := Lib.hid (And.intro (HN.out.2.2.2.1.fr0 hf5) (HN.out.2.2.2.2.trans (hf5.mono fun _ _ f => f.elim)))
      clear hfd hf5 c7 ck cw
      go_loopw [19] (fun s wr => ∃ j : Nat, j ≤ 7 ∧ s = .int .i64 (j : Int) ∧ Hid (Words wr sb 0 8 (shifted S j) ∧ Fr (fun i => i = sb) wo wr)) (fun s _ => (intOf s).toNat)
      case atStart => exact ⟨7, by omega, rfl, H5.out.1.congr fun j hj => by unfold shifted; rw [if_neg (by omega)], H5.out.2⟩
      case round =>
        obtain ⟨j, hj, rfl, L⟩ := hrel
        have hj0 : (0 : Int) ≤ (j : Int) := Int.natCast_nonneg _
        by_cases h0 : 0 < j
        · have h0i : (0 : Int) < (j : Int) := by omega
          have hj7 : (j : Int) < 8 := by omega
          obtain ⟨q, hq⟩ : ∃ q, j - 1 = q := ⟨_, rfl⟩
          have e1 : (j : Int) - 1 = (q : Int) := by omega
          have q0 : (0 : Int) ≤ (q : Int) := Int.natCast_nonneg _
          have q8 : (q : Int) < 8 := by omega
          have ww1 : IntKind.i64.wrap (q : Int) = (q : Int) := IntWalk.i64_in _ (by omega)
          have cq := L.out.1.cell (j := q) (by omega)
          have cj := L.out.1.cell (j := j) (by omega)
          have zj := L.out.1.free j
          rw [Nat.zero_add] at cq cj
          have aq := add0 sb q
          have aj := add0 sb j
          obtain ⟨v, hv⟩ : ∃ v, shifted S j q = v := ⟨_, rfl⟩
          rw [hv] at cq
          have hnew : ∀ i, i < 8 → upd (shifted S j) j v i = shifted S q i := by
            intro i hi
            have hvS : v = S q := by rw [← hv]; unfold shifted; rw [if_neg (by omega)]
            unfold upd
            by_cases e : i = j
            · subst e; rw [if_pos rfl, hvS]; unfold shifted; rw [if_pos (by omega), hq]
            · rw [if_neg e]
              unfold shifted
              by_cases e2 : j < i
              · rw [if_pos e2, if_pos (by omega)]
              · rw [if_neg e2, if_neg (by omega)]
          have hset := (L.out.1.set (i := j) (by omega) v).congr hnew
          rw [Nat.zero_add] at hset
          have hfr := L.out.2.set ⟨sb, j, none⟩ (.inl rfl) (.int .u32 (U v))
          have HS := Lib.hid (And.intro hset (And.intro hfr hq))
          clear hset hfr hnew hv hq L
          go_wp2_with fail
          go_roundw
          case rel => exact ⟨q, by have := HS.out.2.2; omega, rfl, HS.out.1, HS.out.2.1⟩
          case measure => have := HS.out.2.2; simp [intOf]; omega
        · obtain rfl : j = 0 := by omega
          have c4 := L.out.1.cell (j := 4) (by decide)
          have c0 := L.out.1.cell (j := 0) (by decide)
          have z4 := L.out.1.free 4
          have z0 := L.out.1.free 0
          rw [Nat.zero_add] at c4 c0
          obtain ⟨s3, hs3⟩ : ∃ x, shifted S 0 4 = x := ⟨_, rfl⟩
          rw [hs3] at c4
          obtain ⟨n4, hn4⟩ : ∃ x, s3 + x4 = x := ⟨_, rfl⟩
          obtain ⟨n0, hn0⟩ : ∃ x, x4 + y = x := ⟨_, rfl⟩
          have d19 := U_add s3 x4
          have d20 := U_add x4 y
          rw [hn4] at d19
          rw [hn0] at d20
          have hnew : ∀ i, i < 8 → upd (upd (shifted S 0) 4 n4) 0 n0 i = stAt Hs bk (k + 1) i := by
            intro i hi
            rw [HN.out.2.2.1]
            match i, hi with
            | 0, _ => show n0 = rT S kk ww + rU S; rw [HN.out.1, HN.out.2.1, hn0]
            | 1, _ => rfl
            | 2, _ => rfl
            | 3, _ => rfl
            | 4, _ => show n4 = S 3 + rT S kk ww; rw [HN.out.1, ← hn4, ← hs3]; rfl
            | 5, _ => rfl
            | 6, _ => rfl
            | 7, _ => rfl
            | n + 8, h => exact absurd h (by omega)
          have hset := ((L.out.1.set (i := 4) (by decide) n4).set (i := 0) (by decide) n0).congr hnew
          simp only [Nat.zero_add] at hset
          have hfr := (L.out.2.set ⟨sb, 4, none⟩ (.inl rfl) (.int .u32 (U n4))).set ⟨sb, 0, none⟩ (.inl rfl) (.int .u32 (U n0))
          have HS := Lib.hid (And.intro hset hfr)
          clear hset hfr hnew hs3 hn4 hn0 L
          go_wp2_with fail
          go_roundw
          case rel => exact ⟨k + 1, by omega, by go_num, HS.out.1, HS.out.2⟩
          case measure => simp [intOf]; omega
    · obtain rfl : k = 64 := by omega
      go_wp2_with fail
      exact HI.out.2.2.2.2.2.2 _ _ _ _ _ _ _ _ _ _ _ _ _ _ _ _ _ _ _ _ _ _ _ _ _ _ _ _ _ _ _ _ _ _ _ _ _ _ _ _ _ _ _ _ _ _ _ _ _ _ _ _ _ _ _ _ _ _ _ _ _ _ _ _ _ _ _ _ _ _ _ _ _ _ _ _ _ _ _ _ _ _ _ _ _ _ _ _ _ _ _ _ J.out.1 J.out.2
end Go.Proofs.YtlmhphejgahfbaaGreatDoor
