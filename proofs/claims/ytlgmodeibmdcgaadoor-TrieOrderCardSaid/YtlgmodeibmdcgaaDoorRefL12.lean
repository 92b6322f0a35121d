/- Reference 3 (sha): Sum: what comes out. -/
import Derived.Test.YtlgmodeibmdcgaaDoorRefL10
set_option linter.unusedVariables false
set_option linter.unusedSimpArgs false
namespace Go.Proofs.YtlgmodeibmdcgaaDoor
open Go.RowKit

set_option maxHeartbeats 4000000 in
set_option maxRecDepth 100000 in
theorem loop12 {Q : Exit → Act → World → Prop} {wo : World} {hb : Nat} {Hs : Nat → W32} (hh : Words wo hb 0 8 Hs)
    (u0 u1 u2 u3 u4 u5 u6 u7 u8 u9 u10 u11 u12 u13 u14 u15 u16 u17 u18 u19 u20 u21 u22 u23 u24 u25 u26 u27 u28 u29 u30 u31 u32 u33 u34 u35 u36 u37 u38 u39 u40 u41 u42 u43 u44 u45 u46 u47 u48 u49 u50 u51 u52 u53 u54 u55 u56 u57 u58 u59 u60 u61 u62 u63 u64 u65 u66 u67 u68 u69 u70 u71 u72 u73 u74 u75 u76 u77 u78 u79 u80 u81 u82 u83 u84 u85 u86 u87 u88 u89 u90 u91 u92 u93 u94 u95 u96 u97 u98 u99 u100 u101 u102 u103 u104 u105 u106 u107 u108 u109 u110 u111 u112 u113 u114 u115 u116 u117 u118 u119 u120 u121 u122 u123 u124 u125 u126 u127 u128 u129 u130 u131 u132 u133 u134 u135 u136 u137 u138 u139 u140 u141 u142 u143 u144 u145 u146 u147 u148 u149 u150 u151 u152 u153 u154 u155 u156 u157 u158 u159 u160 u161 u162 u163 u164 u165 u166 u167 u168 u169 u170 u171 u172 u173 u174 u175 u176 u177 u178 u179 u180 u181 u182 u183 u184 u185 u186 u187 u188 u189 u190 u191 u192 u193 u194 u195 u196 u197 u198 u199 u200 u201 u202 u203 u204 u205 u206 u207 u208 u209 u210 u211 u212 u213 u214 : Value)
    (hQ : ∀ (w' : World) (A : Option Addr) (c : Nat) (x22 x202 x203 x204 x205 x206 x207 x208 x209 x210 x211 x212 : Value), Ow Ty.u8 5 w' (fun i => wo.heap.size ≤ i) (.slice A 32 c) (outB Hs 8) → Fr No wo w' → Q (.exit 12) ⟨(u0 :: u1 :: u2 :: u3 :: .pointer (some ⟨hb, 0, none⟩) :: u5 :: u6 :: u7 :: u8 :: u9 :: u10 :: u11 :: u12 :: u13 :: u14 :: u15 :: u16 :: u17 :: u18 :: u19 :: u20 :: .slice A 32 c :: x22 :: u23 :: u24 :: u25 :: u26 :: u27 :: u28 :: u29 :: u30 :: u31 :: u32 :: u33 :: u34 :: u35 :: u36 :: u37 :: u38 :: u39 :: u40 :: u41 :: u42 :: u43 :: u44 :: u45 :: u46 :: u47 :: u48 :: u49 :: u50 :: u51 :: u52 :: u53 :: u54 :: u55 :: u56 :: u57 :: u58 :: u59 :: u60 :: u61 :: u62 :: u63 :: u64 :: u65 :: u66 :: u67 :: u68 :: u69 :: u70 :: u71 :: u72 :: u73 :: u74 :: u75 :: u76 :: u77 :: u78 :: u79 :: u80 :: u81 :: u82 :: u83 :: u84 :: u85 :: u86 :: u87 :: u88 :: u89 :: u90 :: u91 :: u92 :: u93 :: u94 :: u95 :: u96 :: u97 :: u98 :: u99 :: u100 :: u101 :: u102 :: u103 :: u104 :: u105 :: u106 :: u107 :: u108 :: u109 :: u110 :: u111 :: u112 :: u113 :: u114 :: u115 :: u116 :: u117 :: u118 :: u119 :: u120 :: u121 :: u122 :: u123 :: u124 :: u125 :: u126 :: u127 :: u128 :: u129 :: u130 :: u131 :: u132 :: u133 :: u134 :: u135 :: u136 :: u137 :: u138 :: u139 :: u140 :: u141 :: u142 :: u143 :: u144 :: u145 :: u146 :: u147 :: u148 :: u149 :: u150 :: u151 :: u152 :: u153 :: u154 :: u155 :: u156 :: u157 :: u158 :: u159 :: u160 :: u161 :: u162 :: u163 :: u164 :: u165 :: u166 :: u167 :: u168 :: u169 :: u170 :: u171 :: u172 :: u173 :: u174 :: u175 :: u176 :: u177 :: u178 :: u179 :: u180 :: u181 :: u182 :: u183 :: u184 :: u185 :: u186 :: u187 :: u188 :: u189 :: u190 :: u191 :: u192 :: u193 :: u194 :: u195 :: u196 :: u197 :: u198 :: u199 :: u200 :: u201 :: x202 :: x203 :: x204 :: x205 :: x206 :: x207 :: x208 :: x209 :: x210 :: x211 :: x212 :: u213 :: u214 :: []).toArray, []⟩ w') :
    (inner Tryd.f21.body 12).wp Tryd.prog Q ⟨(u0 :: u1 :: u2 :: u3 :: .pointer (some ⟨hb, 0, none⟩) :: u5 :: u6 :: u7 :: u8 :: u9 :: u10 :: u11 :: u12 :: u13 :: u14 :: u15 :: u16 :: u17 :: u18 :: u19 :: u20 :: .slice none 0 0 :: .int .i64 0 :: u23 :: u24 :: u25 :: u26 :: u27 :: u28 :: u29 :: u30 :: u31 :: u32 :: u33 :: u34 :: u35 :: u36 :: u37 :: u38 :: u39 :: u40 :: u41 :: u42 :: u43 :: u44 :: u45 :: u46 :: u47 :: u48 :: u49 :: u50 :: u51 :: u52 :: u53 :: u54 :: u55 :: u56 :: u57 :: u58 :: u59 :: u60 :: u61 :: u62 :: u63 :: u64 :: u65 :: u66 :: u67 :: u68 :: u69 :: u70 :: u71 :: u72 :: u73 :: u74 :: u75 :: u76 :: u77 :: u78 :: u79 :: u80 :: u81 :: u82 :: u83 :: u84 :: u85 :: u86 :: u87 :: u88 :: u89 :: u90 :: u91 :: u92 :: u93 :: u94 :: u95 :: u96 :: u97 :: u98 :: u99 :: u100 :: u101 :: u102 :: u103 :: u104 :: u105 :: u106 :: u107 :: u108 :: u109 :: u110 :: u111 :: u112 :: u113 :: u114 :: u115 :: u116 :: u117 :: u118 :: u119 :: u120 :: u121 :: u122 :: u123 :: u124 :: u125 :: u126 :: u127 :: u128 :: u129 :: u130 :: u131 :: u132 :: u133 :: u134 :: u135 :: u136 :: u137 :: u138 :: u139 :: u140 :: u141 :: u142 :: u143 :: u144 :: u145 :: u146 :: u147 :: u148 :: u149 :: u150 :: u151 :: u152 :: u153 :: u154 :: u155 :: u156 :: u157 :: u158 :: u159 :: u160 :: u161 :: u162 :: u163 :: u164 :: u165 :: u166 :: u167 :: u168 :: u169 :: u170 :: u171 :: u172 :: u173 :: u174 :: u175 :: u176 :: u177 :: u178 :: u179 :: u180 :: u181 :: u182 :: u183 :: u184 :: u185 :: u186 :: u187 :: u188 :: u189 :: u190 :: u191 :: u192 :: u193 :: u194 :: u195 :: u196 :: u197 :: u198 :: u199 :: u200 :: u201 :: u202 :: u203 :: u204 :: u205 :: u206 :: u207 :: u208 :: u209 :: u210 :: u211 :: u212 :: u213 :: u214 :: []).toArray, []⟩ wo := by
  have HI := Lib.hid (And.intro hh hQ)
  clear hh hQ
  generalize hc : inner Tryd.f21.body 12 = c
  simp only [Tryd.f21, inner, find, Nat.reduceBEq, Bool.false_eq_true, ↓reduceIte, beq_self_eq_true] at hc
  subst hc
  go_loopw [21, 22] (fun v s wr => ∃ k : Nat, k ≤ 8 ∧ s = .int .i64 (k : Int) ∧ ∃ A n c, v = .slice A n c ∧ Hid (n = 4 * k ∧ Ow Ty.u8 5 wr (fun i => wo.heap.size ≤ i) (.slice A n c) (outB Hs k) ∧ Fr No wo wr)) (fun _ s _ => 8 - (intOf s).toNat)
  case atStart => exact ⟨0, by omega, rfl, none, 0, 0, rfl, rfl, Ow.nil, Fr.refl _ _⟩
  case round =>
    obtain ⟨k, hk, rfl, A, n, c, rfl, J⟩ := hrel
    have hk0 : (0 : Int) ≤ (k : Int) := Int.natCast_nonneg _
    by_cases hlt : k < 8
    · have hk1 : (k : Int) < 8 := by omega
      have c1 := (HI.out.1.fr0 J.out.2.2).cell hlt
      rw [Nat.zero_add] at c1
      have a1 := add0 hb k
      obtain ⟨x, hx⟩ : ∃ x, Hs k = x := ⟨_, rfl⟩
      rw [hx] at c1
      have hU0 := U_nonneg x
      have hU1 := U_lt x
      have hw64 : IntKind.u64.wrap (U x) = U x := by show (U x) % 18446744073709551616 = _; omega
      have hnum := num_ok (w := wr) (n := x.toNat) (k := 4) (by have := x.isLt; omega) (by decide)
      rw [show ((x.toNat : Nat) : Int) = U x from rfl, show ((4 : Nat) : Int) = 4 from rfl] at hnum
      have HN := Lib.hid (And.intro hnum (And.intro J.out hx))
      clear hnum hx J hU0 hU1
      go_wp2_with fail
      refine HN.out.1.mono ?_
      rintro e3 w3 ⟨A3, c3, rfl, hO3, hf3⟩
      obtain ⟨cs, hrow, hat⟩ := hO3.rd.2.2.at
      have hl : (outB Hs k).length = n := by rw [outB_len, HN.out.2.1.1]
      obtain ⟨A4, c4, w4, hrun, hO4, hg4, _⟩ := run_ow_append (P := Tryd.prog) (ty := 30) (ty' := 30) Ty.u8 (HN.out.2.1.2.1.fr0 hf3) (.int .u8 0) 1 Tryd.underlying30 info_u8 rfl (by decide) (by decide) c3 (ys := beN x.toNat 4) (hrow.imp fun _ _ h => h) hat (by rw [hl, beN_len, HN.out.2.1.1]; omega)
      rw [hl, beN_len] at hrun hO4
      have hnext : outB Hs k ++ beN x.toNat 4 = outB Hs (k + 1) := by show _ = outB Hs k ++ be4 (Hs k); rw [be4_beN, HN.out.2.2]
      rw [hnext] at hO4
      have hF4 : Fr No wo w4 := (HN.out.2.1.2.2.trans (hf3.mono fun _ _ f => f.elim)).grown hg4 fun i hi => .inr (HN.out.2.1.2.1.own hi).1
      have hsz : wo.heap.size ≤ w3.heap.size := Nat.le_trans HN.out.2.1.2.2.size hf3.size
      have H4 := Lib.hid (And.intro (hO4.mono (G := fun i => wo.heap.size ≤ i) fun i hi _ => by rcases hi with h | h <;> omega) hF4)
      clear hO4 hF4 hsz hnext hl hg4 hat hrow hO3 hf3
      go_wp2_with (at_builtin; refine wpList_plain rfl fun K hK => wp_append_run _ _ _ _ rfl rfl rfl hrun (hK _ _ ?_))
      go_roundw
      case rel => exact ⟨k + 1, by omega, by go_num, A4, n + 4, c4, rfl, by have := HN.out.2.1.1; omega, H4.out.1, H4.out.2⟩
      case measure => simp [intOf]; omega
    · obtain rfl : k = 8 := by omega
      obtain rfl : n = 32 := J.out.1
      go_wp2_with fail
      exact HI.out.2 _ A c _ _ _ _ _ _ _ _ _ _ _ _ J.out.2.1 J.out.2.2
end Go.Proofs.YtlgmodeibmdcgaaDoor
