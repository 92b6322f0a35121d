/- Texts of this claim, one behind the other: RefL6, RefL10. -/
import Derived.Test.YtlmhphejgahfbaaGreatDoorMrowledgernil38
/- Reference 3 (sha): Sum: the rounds. -/
set_option linter.unusedVariables false
set_option linter.unusedSimpArgs false
namespace Go.Proofs.YtlmhphejgahfbaaGreatDoor
open Go.RowKit

/-- The words moved up, from the last one down to j. -/
def shifted (S : Nat → W32) (j : Nat) : Nat → W32 := fun i => if j < i then S (i - 1) else S i

set_option maxHeartbeats 4000000 in
set_option maxRecDepth 100000 in
theorem loop6 {Q : Exit → Act → World → Prop} {wo : World} {kb wb sb : Nat} {bk : Bs} {Hs R0 : Nat → W32} (hs : Words wo sb 0 8 Hs) (hk : Words wo kb 0 64 Kc) (hw : Words wo wb 0 64 R0) (hR : ∀ j, j < 64 → R0 j = wS bk j) (n1 : sb ≠ kb) (n2 : sb ≠ wb)
    (u0 u1 u2 u3 u4 u5 u6 u7 u8 u9 u10 u11 u12 u13 u14 u15 u16 u17 u18 u19 u20 u21 u22 u23 u24 u25 u26 u27 u28 u29 u30 u31 u32 u33 u34 u35 u36 u37 u38 u39 u40 u41 u42 u43 u44 u45 u46 u47 u48 u49 u50 u51 u52 u53 u54 u55 u56 u57 u58 u59 u60 u61 u62 u63 u64 u65 u66 u67 u68 u69 u70 u71 u72 u73 u74 u75 u76 u77 u78 u79 u80 u81 u82 u83 u84 u85 u86 u87 u88 u89 u90 u91 u92 u93 u94 u95 u96 u97 u98 u99 u100 u101 u102 u103 u104 u105 u106 u107 u108 u109 u110 u111 u112 u113 u114 u115 u116 u117 u118 u119 u120 u121 u122 u123 u124 u125 u126 u127 u128 u129 u130 u131 u132 u133 u134 u135 u136 u137 u138 u139 u140 u141 u142 u143 u144 u145 u146 u147 u148 u149 u150 u151 u152 u153 u154 u155 u156 u157 u158 u159 u160 u161 u162 u163 u164 u165 u166 u167 u168 u169 u170 u171 u172 u173 u174 u175 u176 u177 u178 u179 u180 u181 u182 u183 u184 u185 u186 u187 u188 u189 u190 u191 u192 u193 u194 u195 u196 u197 u198 u199 u200 u201 u202 u203 u204 u205 u206 u207 u208 u209 u210 u211 u212 u213 u214 : Value)
    (hQ : ∀ (w' : World) (x12 x13 x14 x15 x16 x17 x18 x19 x107 x108 x109 x110 x111 x112 x113 x114 x115 x116 x117 x118 x119 x120 x121 x122 x123 x124 x125 x126 x127 x128 x129 x130 x131 x132 x133 x134 x135 x136 x137 x138 x139 x140 x141 x142 x143 x144 x145 x146 x147 x148 x149 x150 x151 x152 x153 x154 x155 x156 x157 x158 x159 x160 x161 x162 x163 x164 x165 x166 x167 x168 x169 x170 x171 x172 x173 x174 x175 x176 x177 x178 x179 x180 x181 x182 x183 x184 x185 x186 x187 x188 x189 : Value), Words w' sb 0 8 (stAt Hs bk 64) → Fr (fun i => i = sb) wo w' → Q (.exit 6) ⟨(u0 :: u1 :: u2 :: .pointer (some ⟨kb, 0, none⟩) :: u4 :: u5 :: u6 :: .pointer (some ⟨wb, 0, none⟩) :: u8 :: u9 :: u10 :: .pointer (some ⟨sb, 0, none⟩) :: x12 :: x13 :: x14 :: x15 :: x16 :: x17 :: x18 :: x19 :: u20 :: u21 :: u22 :: u23 :: u24 :: u25 :: u26 :: u27 :: u28 :: u29 :: u30 :: u31 :: u32 :: u33 :: u34 :: u35 :: u36 :: u37 :: u38 :: u39 :: u40 :: u41 :: u42 :: u43 :: u44 :: u45 :: u46 :: u47 :: u48 :: u49 :: u50 :: u51 :: u52 :: u53 :: u54 :: u55 :: u56 :: u57 :: u58 :: u59 :: u60 :: u61 :: u62 :: u63 :: u64 :: u65 :: u66 :: u67 :: u68 :: u69 :: u70 :: u71 :: u72 :: u73 :: u74 :: u75 :: u76 :: u77 :: u78 :: u79 :: u80 :: u81 :: u82 :: u83 :: u84 :: u85 :: u86 :: u87 :: u88 :: u89 :: u90 :: u91 :: u92 :: u93 :: u94 :: u95 :: u96 :: u97 :: u98 :: u99 :: u100 :: u101 :: u102 :: u103 :: u104 :: u105 :: u106 :: x107 :: x108 :: x109 :: x110 :: x111 :: x112 :: x113 :: x114 :: x115 :: x116 :: x117 :: x118 :: x119 :: x120 :: x121 :: x122 :: x123 :: x124 :: x125 :: x126 :: x127 :: x128 :: x129 :: x130 :: x131 :: x132 :: x133 :: x134 :: x135 :: x136 :: x137 :: x138 :: x139 :: x140 :: x141 :: x142 :: x143 :: x144 :: x145 :: x146 :: x147 :: x148 :: x149 :: x150 :: x151 :: x152 :: x153 :: x154 :: x155 :: x156 :: x157 :: x158 :: x159 :: x160 :: x161 :: x162 :: x163 :: x164 :: x165 :: x166 :: x167 :: x168 :: x169 :: x170 :: x171 :: x172 :: x173 :: x174 :: x175 :: x176 :: x177 :: x178 :: x179 :: x180 :: x181 :: x182 :: x183 :: x184 :: x185 :: x186 :: x187 :: x188 :: x189 :: u190 :: u191 :: u192 :: u193 :: u194 :: u195 :: u196 :: u197 :: u198 :: u199 :: u200 :: u201 :: u202 :: u203 :: u204 :: u205 :: u206 :: u207 :: u208 :: u209 :: u210 :: u211 :: u212 :: u213 :: u214 :: []).toArray, []⟩ w') :
    (inner Tryz.f43.body 6).wp Tryz.prog Q ⟨(u0 :: u1 :: u2 :: .pointer (some ⟨kb, 0, none⟩) :: u4 :: u5 :: u6 :: .pointer (some ⟨wb, 0, none⟩) :: u8 :: u9 :: u10 :: .pointer (some ⟨sb, 0, none⟩) :: .int .i64 0 :: u13 :: u14 :: u15 :: u16 :: u17 :: u18 :: u19 :: u20 :: u21 :: u22 :: u23 :: u24 :: u25 :: u26 :: u27 :: u28 :: u29 :: u30 :: u31 :: u32 :: u33 :: u34 :: u35 :: u36 :: u37 :: u38 :: u39 :: u40 :: u41 :: u42 :: u43 :: u44 :: u45 :: u46 :: u47 :: u48 :: u49 :: u50 :: u51 :: u52 :: u53 :: u54 :: u55 :: u56 :: u57 :: u58 :: u59 :: u60 :: u61 :: u62 :: u63 :: u64 :: u65 :: u66 :: u67 :: u68 :: u69 :: u70 :: u71 :: u72 :: u73 :: u74 :: u75 :: u76 :: u77 :: u78 :: u79 :: u80 :: u81 :: u82 :: u83 :: u84 :: u85 :: u86 :: u87 :: u88 :: u89 :: u90 :: u91 :: u92 :: u93 :: u94 :: u95 :: u96 :: u97 :: u98 :: u99 :: u100 :: u101 :: u102 :: u103 :: u104 :: u105 :: u106 :: u107 :: u108 :: u109 :: u110 :: u111 :: u112 :: u113 :: u114 :: u115 :: u116 :: u117 :: u118 :: u119 :: u120 :: u121 :: u122 :: u123 :: u124 :: u125 :: u126 :: u127 :: u128 :: u129 :: u130 :: u131 :: u132 :: u133 :: u134 :: u135 :: u136 :: u137 :: u138 :: u139 :: u140 :: u141 :: u142 :: u143 :: u144 :: u145 :: u146 :: u147 :: u148 :: u149 :: u150 :: u151 :: u152 :: u153 :: u154 :: u155 :: u156 :: u157 :: u158 :: u159 :: u160 :: u161 :: u162 :: u163 :: u164 :: u165 :: u166 :: u167 :: u168 :: u169 :: u170 :: u171 :: u172 :: u173 :: u174 :: u175 :: u176 :: u177 :: u178 :: u179 :: u180 :: u181 :: u182 :: u183 :: u184 :: u185 :: u186 :: u187 :: u188 :: u189 :: u190 :: u191 :: u192 :: u193 :: u194 :: u195 :: u196 :: u197 :: u198 :: u199 :: u200 :: u201 :: u202 :: u203 :: u204 :: u205 :: u206 :: u207 :: u208 :: u209 :: u210 :: u211 :: u212 :: u213 :: u214 :: []).toArray, []⟩ wo := by
  have HI := Lib.hid (And.intro hs (And.intro hk (And.intro hw (And.intro hR (And.intro n1 (And.intro n2 hQ))))))
  clear hs hk hw hR hQ n1 n2
  generalize hc : inner Tryz.f43.body 6 = c
  simp only [Tryz.f43, inner, find, Nat.reduceBEq, Bool.false_eq_true, ↓reduceIte, beq_self_eq_true] at hc
  subst hc
  go_loopw [12] (fun s wr => ∃ k : Nat, k ≤ 64 ∧ s = .int .i64 (k : Int) ∧ Hid (Words wr sb 0 8 (stAt Hs bk k) ∧ Fr (fun i => i = sb) wo wr)) (fun s _ => 64 - (intOf s).toNat)
  case atStart => exact ⟨0, by omega, rfl, HI.out.1, Fr.refl _ _⟩
  case round =>
    obtain ⟨k, hk, rfl, J⟩ := hrel
    have hk0 : (0 : Int) ≤ (k : Int) := Int.natCast_nonneg _
    by_cases hlt : k < 64
    · have hk1 : (k : Int) < 64 := by omega
      obtain ⟨S, hS⟩ : ∃ S, stAt Hs bk k = S := ⟨_, rfl⟩
      have hSW := J.out.1
      rw [hS] at hSW
      have c0 := hSW.cell (j := 0) (by decide)
      have c1 := hSW.cell (j := 1) (by decide)
      have c2 := hSW.cell (j := 2) (by decide)
      have c4 := hSW.cell (j := 4) (by decide)
      have c5 := hSW.cell (j := 5) (by decide)
      have c6 := hSW.cell (j := 6) (by decide)
      have c7 := hSW.cell (j := 7) (by decide)
      have ck := (HI.out.2.1.fr J.out.2 (fun e => HI.out.2.2.2.2.1 e.symm)).cell hlt
      have cw := (HI.out.2.2.1.fr J.out.2 (fun e => HI.out.2.2.2.2.2.1 e.symm)).cell hlt
      rw [HI.out.2.2.2.1 k hlt] at cw
      rw [Nat.zero_add] at c0 c1 c2 c4 c5 c6 c7 ck cw
      have ak := add0 kb k
      have aw := add0 wb k
      obtain ⟨s0, hs0⟩ : ∃ x, S 0 = x := ⟨_, rfl⟩
      obtain ⟨s1, hs1⟩ : ∃ x, S 1 = x := ⟨_, rfl⟩
      obtain ⟨s2, hs2⟩ : ∃ x, S 2 = x := ⟨_, rfl⟩
      obtain ⟨s4, hs4⟩ : ∃ x, S 4 = x := ⟨_, rfl⟩
      obtain ⟨s5, hs5⟩ : ∃ x, S 5 = x := ⟨_, rfl⟩
      obtain ⟨s6, hs6⟩ : ∃ x, S 6 = x := ⟨_, rfl⟩
      obtain ⟨s7, hs7⟩ : ∃ x, S 7 = x := ⟨_, rfl⟩
      obtain ⟨kk, hkk⟩ : ∃ x, Kc k = x := ⟨_, rfl⟩
      obtain ⟨ww, hww⟩ : ∃ x, wS bk k = x := ⟨_, rfl⟩
      rw [hs0] at c0
      rw [hs1] at c1
      rw [hs2] at c2
      rw [hs4] at c4
      rw [hs5] at c5
      rw [hs6] at c6
      rw [hs7] at c7
      rw [hkk] at ck
      rw [hww] at cw
      obtain ⟨p1, hp1⟩ : ∃ x, s4 &&& s5 = x := ⟨_, rfl⟩
      obtain ⟨ne, hne⟩ : ∃ x, ~~~s4 = x := ⟨_, rfl⟩
      obtain ⟨p2, hp2⟩ : ∃ x, ne &&& s6 = x := ⟨_, rfl⟩
      obtain ⟨ch, hch⟩ : ∃ x, p1 ||| p2 = x := ⟨_, rfl⟩
      obtain ⟨m1, hm1⟩ : ∃ x, s0 &&& s1 = x := ⟨_, rfl⟩
      obtain ⟨m2, hm2⟩ : ∃ x, s0 &&& s2 = x := ⟨_, rfl⟩
      obtain ⟨m3, hm3⟩ : ∃ x, m1 ^^^ m2 = x := ⟨_, rfl⟩
      obtain ⟨m4, hm4⟩ : ∃ x, s1 &&& s2 = x := ⟨_, rfl⟩
      obtain ⟨mo, hmo⟩ : ∃ x, m3 ^^^ m4 = x := ⟨_, rfl⟩
      obtain ⟨r6, hr6⟩ : ∃ x, rr s4 6 = x := ⟨_, rfl⟩
      obtain ⟨r11, hr11⟩ : ∃ x, rr s4 11 = x := ⟨_, rfl⟩
      obtain ⟨r25, hr25⟩ : ∃ x, rr s4 25 = x := ⟨_, rfl⟩
      obtain ⟨t1, ht1⟩ : ∃ x, r6 ^^^ r11 = x := ⟨_, rfl⟩
      obtain ⟨t2, ht2⟩ : ∃ x, t1 ^^^ r25 = x := ⟨_, rfl⟩
      obtain ⟨x1, hx1⟩ : ∃ x, s7 + t2 = x := ⟨_, rfl⟩
      obtain ⟨x2, hx2⟩ : ∃ x, x1 + ch = x := ⟨_, rfl⟩
      obtain ⟨x3, hx3⟩ : ∃ x, x2 + kk = x := ⟨_, rfl⟩
      obtain ⟨x4, hx4⟩ : ∃ x, x3 + ww = x := ⟨_, rfl⟩
      obtain ⟨q2, hq2⟩ : ∃ x, rr s0 2 = x := ⟨_, rfl⟩
      obtain ⟨q13, hq13⟩ : ∃ x, rr s0 13 = x := ⟨_, rfl⟩
      obtain ⟨q22, hq22⟩ : ∃ x, rr s0 22 = x := ⟨_, rfl⟩
      obtain ⟨t3, ht3⟩ : ∃ x, q2 ^^^ q13 = x := ⟨_, rfl⟩
      obtain ⟨t4, ht4⟩ : ∃ x, t3 ^^^ q22 = x := ⟨_, rfl⟩
      obtain ⟨y, hy⟩ : ∃ x, t4 + mo = x := ⟨_, rfl⟩
      have d1 := U_and s4 s5
      have d2 := U_not s4
      have d2b := U_not' s4
      have d2c := U_wrap ne
      have d3 := U_and ne s6
      have d4 := U_or p1 p2
      have d5 := U_and s0 s1
      have d6 := U_and s0 s2
      have d7 := U_xor m1 m2
      have d8 := U_and s1 s2
      have d9 := U_xor m3 m4
      have d10 := U_xor r6 r11
      have d11 := U_xor t1 r25
      have d12 := U_add s7 t2
      have d13 := U_add x1 ch
      have d14 := U_add x2 kk
      have d15 := U_add x3 ww
      have d16 := U_xor q2 q13
      have d17 := U_xor t3 q22
      have d18 := U_add t4 mo
      rw [hp1] at d1
      rw [hne] at d2 d2b
      rw [hp2] at d3
      rw [hch] at d4
      rw [hm1] at d5
      rw [hm2] at d6
      rw [hm3] at d7
      rw [hm4] at d8
      rw [hmo] at d9
      rw [ht1] at d10
      rw [ht2] at d11
      rw [hx1] at d12
      rw [hx2] at d13
      rw [hx3] at d14
      rw [hx4] at d15
      rw [ht3] at d16
      rw [ht4] at d17
      rw [hy] at d18
      have hT6 := Lib.hid (turn_ok s4 r6 6 6 rfl (by decide) hr6)
      have hT11 := Lib.hid (turn_ok s4 r11 11 11 rfl (by decide) hr11)
      have hT25 := Lib.hid (turn_ok s4 r25 25 25 rfl (by decide) hr25)
      have hT2 := Lib.hid (turn_ok s0 q2 2 2 rfl (by decide) hq2)
      have hT13 := Lib.hid (turn_ok s0 q13 13 13 rfl (by decide) hq13)
      have hT22 := Lib.hid (turn_ok s0 q22 22 22 rfl (by decide) hq22)
      have hrT : rT S kk ww = x4 := by
        unfold rT SG1
        rw [hs4, hs5, hs6, hs7, ← choice_eq, hp1, hne, hp2, hch, hr6, hr11, hr25, ht1, ht2, hx1, hx2, hx3, hx4]
      have hrU : rU S = y := by
        unfold rU SG0
        rw [hs0, hs1, hs2, ← most_eq, hm1, hm2, hm3, hm4, hmo, hq2, hq13, hq22, ht3, ht4, hy]
      have hst : stAt Hs bk (k + 1) = rStep S kk ww := by
        show rStep (stAt Hs bk k) (Kc k) (wS bk k) = _
        rw [hS, hkk, hww]
      have HN := Lib.hid (And.intro hrT (And.intro hrU (And.intro hst (And.intro hSW J.out.2))))
      clear hrT hrU hst hSW J hS hs0 hs1 hs2 hs4 hs5 hs6 hs7 hkk hww hp1 hne hp2 hch hm1 hm2 hm3 hm4 hmo hr6 hr11 hr25 ht1 ht2 hx1 hx2 hx3 hx4 hq2 hq13 hq22 ht3 ht4 hy
      go_wp2_with fail
      go_quiet (fail)
      go_wp2_with fail
      obtain ⟨W, hW⟩ : ∃ W, W = wr.drewN nq := ⟨_, rfl⟩
      have HW := Lib.hid (show Fr No wr W by rw [hW]; exact (Fr.refl No wr).drewN _)
      have c7 := HW.out.cell c7 (fun f => f)
      have ck := HW.out.cell ck (fun f => f)
      have cw := HW.out.cell cw (fun f => f)
      rw [← hW]
      clear hW c0 c1 c2 c4 c5 c6
      go_quiet ((first
        | (go_at_call_of 96 (Value.int IntKind.i64 6); exact Calls.quiet_of (hT6.out _))
        | (go_at_call_of 96 (Value.int IntKind.i64 11); exact Calls.quiet_of (hT11.out _))
        | (go_at_call_of 96 (Value.int IntKind.i64 25); exact Calls.quiet_of (hT25.out _))))
      go_wp2_with (first
        | (go_at_call_of 96 (Value.int IntKind.i64 2); refine (hT2.out _).mono ?_; rintro e1 w1 ⟨rfl, m1, rfl⟩)
        | (go_at_call_of 96 (Value.int IntKind.i64 13); refine (hT13.out _).mono ?_; rintro e1 w1 ⟨rfl, m1, rfl⟩)
        | (go_at_call_of 96 (Value.int IntKind.i64 22); refine (hT22.out _).mono ?_; rintro e1 w1 ⟨rfl, m1, rfl⟩))
      have hfd : ∀ m, Fr No wr (W.drewN m) := fun m => HW.out.drewN m
      generalize hw5 : W.drewN _ = w5
      have hf5 : Fr No wr w5 := by rw [← hw5]; exact hfd _
      clear hw5
      have H5 := Lib.hid (And.intro (HN.out.2.2.2.1.fr0 hf5) (HN.out.2.2.2.2.trans (hf5.mono fun _ _ f => f.elim)))
      clear hfd hf5 c7 ck cw
      go_loopw [19] (fun s wr => ∃ j : Nat, j ≤ 7 ∧ s = .int .i64 (j : Int) ∧ Hid (Words wr sb 0 8 (shifted S j) ∧ Fr (fun i => i = sb) wo wr)) (fun s _ => (intOf s).toNat)
      case atStart => exact ⟨7, by omega, rfl, H5.out.1.congr fun j hj => by unfold shifted; rw [if_neg (by omega)], H5.out.2⟩
      case round =>
        obtain ⟨j, hj, rfl, L⟩ := hrel
        have hj0 : (0 : Int) ≤ (j : Int) := Int.natCast_nonneg _
        by_cases h0 : 0 < j
        · have h0i : (0 : Int) < (j : Int) := by omega
          have hj7 : (j : Int) < 8 := by omega
          obtain ⟨q, hq⟩ : ∃ q, j - 1 = q := ⟨_, rfl⟩
          have e1 : (j : Int) - 1 = (q : Int) := by omega
          have q0 : (0 : Int) ≤ (q : Int) := Int.natCast_nonneg _
          have q8 : (q : Int) < 8 := by omega
          have ww1 : IntKind.i64.wrap (q : Int) = (q : Int) := IntWalk.i64_in _ (by omega)
          have cq := L.out.1.cell (j := q) (by omega)
          have cj := L.out.1.cell (j := j) (by omega)
          have zj := L.out.1.free j
          rw [Nat.zero_add] at cq cj
          have aq := add0 sb q
          have aj := add0 sb j
          obtain ⟨v, hv⟩ : ∃ v, shifted S j q = v := ⟨_, rfl⟩
          rw [hv] at cq
          have hnew : ∀ i, i < 8 → upd (shifted S j) j v i = shifted S q i := by
            intro i hi
            have hvS : v = S q := by rw [← hv]; unfold shifted; rw [if_neg (by omega)]
            unfold upd
            by_cases e : i = j
            · subst e; rw [if_pos rfl, hvS]; unfold shifted; rw [if_pos (by omega), hq]
            · rw [if_neg e]
              unfold shifted
              by_cases e2 : j < i
              · rw [if_pos e2, if_pos (by omega)]
              · rw [if_neg e2, if_neg (by omega)]
          have hset := (L.out.1.set (i := j) (by omega) v).congr hnew
          rw [Nat.zero_add] at hset
          have hfr := L.out.2.set ⟨sb, j, none⟩ (.inl rfl) (.int .u32 (U v))
          have HS := Lib.hid (And.intro hset (And.intro hfr hq))
          clear hset hfr hnew hv hq L
          go_wp2_with fail
          go_roundw
          case rel => exact ⟨q, by have := HS.out.2.2; omega, rfl, HS.out.1, HS.out.2.1⟩
          case measure => have := HS.out.2.2; simp [intOf]; omega
        · obtain rfl : j = 0 := by omega
          have c4 := L.out.1.cell (j := 4) (by decide)
          have c0 := L.out.1.cell (j := 0) (by decide)
          have z4 := L.out.1.free 4
          have z0 := L.out.1.free 0
          rw [Nat.zero_add] at c4 c0
          obtain ⟨s3, hs3⟩ : ∃ x, shifted S 0 4 = x := ⟨_, rfl⟩
          rw [hs3] at c4
          obtain ⟨n4, hn4⟩ : ∃ x, s3 + x4 = x := ⟨_, rfl⟩
          obtain ⟨n0, hn0⟩ : ∃ x, x4 + y = x := ⟨_, rfl⟩
          have d19 := U_add s3 x4
          have d20 := U_add x4 y
          rw [hn4] at d19
          rw [hn0] at d20
          have hnew : ∀ i, i < 8 → upd (upd (shifted S 0) 4 n4) 0 n0 i = stAt Hs bk (k + 1) i := by
            intro i hi
            rw [HN.out.2.2.1]
            match i, hi with
            | 0, _ => show n0 = rT S kk ww + rU S; rw [HN.out.1, HN.out.2.1, hn0]
            | 1, _ => rfl
            | 2, _ => rfl
            | 3, _ => rfl
            | 4, _ => show n4 = S 3 + rT S kk ww; rw [HN.out.1, ← hn4, ← hs3]; rfl
            | 5, _ => rfl
            | 6, _ => rfl
            | 7, _ => rfl
            | n + 8, h => exact absurd h (by omega)
          have hset := ((L.out.1.set (i := 4) (by decide) n4).set (i := 0) (by decide) n0).congr hnew
          simp only [Nat.zero_add] at hset
          have hfr := (L.out.2.set ⟨sb, 4, none⟩ (.inl rfl) (.int .u32 (U n4))).set ⟨sb, 0, none⟩ (.inl rfl) (.int .u32 (U n0))
          have HS := Lib.hid (And.intro hset hfr)
          clear hset hfr hnew hs3 hn4 hn0 L
          go_wp2_with fail
          go_roundw
          case rel => exact ⟨k + 1, by omega, by go_num, HS.out.1, HS.out.2⟩
          case measure => simp [intOf]; omega
    · obtain rfl : k = 64 := by omega
      go_wp2_with fail
      exact HI.out.2.2.2.2.2.2 _ _ _ _ _ _ _ _ _ _ _ _ _ _ _ _ _ _ _ _ _ _ _ _ _ _ _ _ _ _ _ _ _ _ _ _ _ _ _ _ _ _ _ _ _ _ _ _ _ _ _ _ _ _ _ _ _ _ _ _ _ _ _ _ _ _ _ _ _ _ _ _ _ _ _ _ _ _ _ _ _ _ _ _ _ _ _ _ _ _ _ _ J.out.1 J.out.2
end Go.Proofs.YtlmhphejgahfbaaGreatDoor
/- Reference 3 (sha): Sum: the state's sum. -/
set_option linter.unusedVariables false
set_option linter.unusedSimpArgs false
namespace Go.Proofs.YtlmhphejgahfbaaGreatDoor
open Go.RowKit

set_option maxHeartbeats 4000000 in
set_option maxRecDepth 100000 in
theorem loop10 {Q : Exit → Act → World → Prop} {wo : World} {hb sb : Nat} {Hs S : Nat → W32} (hh : Words wo hb 0 8 Hs) (hs : Words wo sb 0 8 S) (n1 : sb ≠ hb)
    (u0 u1 u2 u3 u4 u5 u6 u7 u8 u9 u10 u11 u12 u13 u14 u15 u16 u17 u18 u19 u20 u21 u22 u23 u24 u25 u26 u27 u28 u29 u30 u31 u32 u33 u34 u35 u36 u37 u38 u39 u40 u41 u42 u43 u44 u45 u46 u47 u48 u49 u50 u51 u52 u53 u54 u55 u56 u57 u58 u59 u60 u61 u62 u63 u64 u65 u66 u67 u68 u69 u70 u71 u72 u73 u74 u75 u76 u77 u78 u79 u80 u81 u82 u83 u84 u85 u86 u87 u88 u89 u90 u91 u92 u93 u94 u95 u96 u97 u98 u99 u100 u101 u102 u103 u104 u105 u106 u107 u108 u109 u110 u111 u112 u113 u114 u115 u116 u117 u118 u119 u120 u121 u122 u123 u124 u125 u126 u127 u128 u129 u130 u131 u132 u133 u134 u135 u136 u137 u138 u139 u140 u141 u142 u143 u144 u145 u146 u147 u148 u149 u150 u151 u152 u153 u154 u155 u156 u157 u158 u159 u160 u161 u162 u163 u164 u165 u166 u167 u168 u169 u170 u171 u172 u173 u174 u175 u176 u177 u178 u179 u180 u181 u182 u183 u184 u185 u186 u187 u188 u189 u190 u191 u192 u193 u194 u195 u196 u197 u198 u199 u200 u201 u202 u203 u204 u205 u206 u207 u208 u209 u210 u211 u212 u213 u214 : Value)
    (hQ : ∀ (w' : World) (x20 x190 x191 x192 x193 x194 x195 x196 x197 x198 x199 x200 x201 : Value), Words w' hb 0 8 (fun j => Hs j + S j) → Fr (fun i => i = hb) wo w' → Q (.exit 10) ⟨(u0 :: u1 :: u2 :: u3 :: .pointer (some ⟨hb, 0, none⟩) :: u5 :: u6 :: u7 :: u8 :: u9 :: u10 :: .pointer (some ⟨sb, 0, none⟩) :: u12 :: u13 :: u14 :: u15 :: u16 :: u17 :: u18 :: u19 :: x20 :: u21 :: u22 :: u23 :: u24 :: u25 :: u26 :: u27 :: u28 :: u29 :: u30 :: u31 :: u32 :: u33 :: u34 :: u35 :: u36 :: u37 :: u38 :: u39 :: u40 :: u41 :: u42 :: u43 :: u44 :: u45 :: u46 :: u47 :: u48 :: u49 :: u50 :: u51 :: u52 :: u53 :: u54 :: u55 :: u56 :: u57 :: u58 :: u59 :: u60 :: u61 :: u62 :: u63 :: u64 :: u65 :: u66 :: u67 :: u68 :: u69 :: u70 :: u71 :: u72 :: u73 :: u74 :: u75 :: u76 :: u77 :: u78 :: u79 :: u80 :: u81 :: u82 :: u83 :: u84 :: u85 :: u86 :: u87 :: u88 :: u89 :: u90 :: u91 :: u92 :: u93 :: u94 :: u95 :: u96 :: u97 :: u98 :: u99 :: u100 :: u101 :: u102 :: u103 :: u104 :: u105 :: u106 :: u107 :: u108 :: u109 :: u110 :: u111 :: u112 :: u113 :: u114 :: u115 :: u116 :: u117 :: u118 :: u119 :: u120 :: u121 :: u122 :: u123 :: u124 :: u125 :: u126 :: u127 :: u128 :: u129 :: u130 :: u131 :: u132 :: u133 :: u134 :: u135 :: u136 :: u137 :: u138 :: u139 :: u140 :: u141 :: u142 :: u143 :: u144 :: u145 :: u146 :: u147 :: u148 :: u149 :: u150 :: u151 :: u152 :: u153 :: u154 :: u155 :: u156 :: u157 :: u158 :: u159 :: u160 :: u161 :: u162 :: u163 :: u164 :: u165 :: u166 :: u167 :: u168 :: u169 :: u170 :: u171 :: u172 :: u173 :: u174 :: u175 :: u176 :: u177 :: u178 :: u179 :: u180 :: u181 :: u182 :: u183 :: u184 :: u185 :: u186 :: u187 :: u188 :: u189 :: x190 :: x191 :: x192 :: x193 :: x194 :: x195 :: x196 :: x197 :: x198 :: x199 :: x200 :: x201 :: u202 :: u203 :: u204 :: u205 :: u206 :: u207 :: u208 :: u209 :: u210 :: u211 :: u212 :: u213 :: u214 :: []).toArray, []⟩ w') :
    (inner Tryz.f43.body 10).wp Tryz.prog Q ⟨(u0 :: u1 :: u2 :: u3 :: .pointer (some ⟨hb, 0, none⟩) :: u5 :: u6 :: u7 :: u8 :: u9 :: u10 :: .pointer (some ⟨sb, 0, none⟩) :: u12 :: u13 :: u14 :: u15 :: u16 :: u17 :: u18 :: u19 :: .int .i64 0 :: u21 :: u22 :: u23 :: u24 :: u25 :: u26 :: u27 :: u28 :: u29 :: u30 :: u31 :: u32 :: u33 :: u34 :: u35 :: u36 :: u37 :: u38 :: u39 :: u40 :: u41 :: u42 :: u43 :: u44 :: u45 :: u46 :: u47 :: u48 :: u49 :: u50 :: u51 :: u52 :: u53 :: u54 :: u55 :: u56 :: u57 :: u58 :: u59 :: u60 :: u61 :: u62 :: u63 :: u64 :: u65 :: u66 :: u67 :: u68 :: u69 :: u70 :: u71 :: u72 :: u73 :: u74 :: u75 :: u76 :: u77 :: u78 :: u79 :: u80 :: u81 :: u82 :: u83 :: u84 :: u85 :: u86 :: u87 :: u88 :: u89 :: u90 :: u91 :: u92 :: u93 :: u94 :: u95 :: u96 :: u97 :: u98 :: u99 :: u100 :: u101 :: u102 :: u103 :: u104 :: u105 :: u106 :: u107 :: u108 :: u109 :: u110 :: u111 :: u112 :: u113 :: u114 :: u115 :: u116 :: u117 :: u118 :: u119 :: u120 :: u121 :: u122 :: u123 :: u124 :: u125 :: u126 :: u127 :: u128 :: u129 :: u130 :: u131 :: u132 :: u133 :: u134 :: u135 :: u136 :: u137 :: u138 :: u139 :: u140 :: u141 :: u142 :: u143 :: u144 :: u145 :: u146 :: u147 :: u148 :: u149 :: u150 :: u151 :: u152 :: u153 :: u154 :: u155 :: u156 :: u157 :: u158 :: u159 :: u160 :: u161 :: u162 :: u163 :: u164 :: u165 :: u166 :: u167 :: u168 :: u169 :: u170 :: u171 :: u172 :: u173 :: u174 :: u175 :: u176 :: u177 :: u178 :: u179 :: u180 :: u181 :: u182 :: u183 :: u184 :: u185 :: u186 :: u187 :: u188 :: u189 :: u190 :: u191 :: u192 :: u193 :: u194 :: u195 :: u196 :: u197 :: u198 :: u199 :: u200 :: u201 :: u202 :: u203 :: u204 :: u205 :: u206 :: u207 :: u208 :: u209 :: u210 :: u211 :: u212 :: u213 :: u214 :: []).toArray, []⟩ wo := by
  have HI := Lib.hid (And.intro hh (And.intro hs (And.intro n1 hQ)))
  clear hs hh hQ
  generalize hc : inner Tryz.f43.body 10 = c
  simp only [Tryz.f43, inner, find, Nat.reduceBEq, Bool.false_eq_true, ↓reduceIte, beq_self_eq_true] at hc
  subst hc
  go_loopw [20] (fun s wr => ∃ k : Nat, k ≤ 8 ∧ s = .int .i64 (k : Int) ∧ Hid (Words wr hb 0 8 (fun j => if j < k then Hs j + S j else Hs j) ∧ Words wr sb 0 8 S ∧ Fr (fun i => i = hb) wo wr)) (fun s _ => 8 - (intOf s).toNat)
  case atStart => exact ⟨0, by omega, rfl, HI.out.1.congr (fun j hj => by simp), HI.out.2.1, Fr.refl _ _⟩
  case round =>
    obtain ⟨k, hk, rfl, J⟩ := hrel
    have hk0 : (0 : Int) ≤ (k : Int) := Int.natCast_nonneg _
    by_cases hlt : k < 8
    · have hk1 : (k : Int) < 8 := by omega
      have c1 := J.out.1.cell hlt
      have c2 := J.out.2.1.cell hlt
      have z1 := J.out.1.free k
      rw [if_neg (by omega)] at c1
      rw [Nat.zero_add] at c1 c2
      have a1 := add0 hb k
      have a2 := add0 sb k
      have hset := J.out.1.set hlt (Hs k + S k)
      rw [Nat.zero_add] at hset
      obtain ⟨x, hx⟩ : ∃ x, Hs k = x := ⟨_, rfl⟩
      obtain ⟨y, hy⟩ : ∃ y, S k = y := ⟨_, rfl⟩
      rw [hx] at c1
      rw [hy] at c2
      rw [hx, hy] at hset
      have d1 := U_add x y
      have HS := Lib.hid (And.intro hset (And.intro hx hy))
      clear hset hx hy
      go_wp2_with fail
      go_region
      all_goals
        go_wp2_with fail
        go_roundw
        case rel =>
          refine ⟨k + 1, by omega, by go_num, (HS.out.1.fr0 ((Fr.refl No _).drew)).congr (fun j hj => ?_), (J.out.2.1.fr (S := fun i => i = hb) ((Fr.set (F := fun i => i = hb) (Fr.refl (fun i => i = hb) wr) ⟨hb, k, none⟩ (.inl rfl) _).drew) n1), (J.out.2.2.trans ((Fr.set (F := fun i => i = hb) (Fr.refl (fun i => i = hb) wr) ⟨hb, k, none⟩ (.inl rfl) _).mono fun i _ e => .inl e)).drew⟩
          unfold upd
          by_cases e : j = k
          · subst e; rw [if_pos rfl, if_pos (by omega), HS.out.2.1, HS.out.2.2]
          · rw [if_neg e]
            dsimp only
            by_cases e2 : j < k
            · rw [if_pos e2, if_pos (by omega)]
            · rw [if_neg e2, if_neg (by omega)]
        case measure => simp [intOf]; omega
    · obtain rfl : k = 8 := by omega
      go_wp2_with fail
      exact HI.out.2.2.2 _ _ _ _ _ _ _ _ _ _ _ _ _ _ (J.out.1.congr fun j hj => by rw [if_pos hj]) J.out.2.2
end Go.Proofs.YtlmhphejgahfbaaGreatDoor
