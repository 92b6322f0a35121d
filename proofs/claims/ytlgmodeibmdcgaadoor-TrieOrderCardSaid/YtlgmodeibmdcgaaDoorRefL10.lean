/- Reference 3 (sha): Sum: the state's sum. -/
import Derived.Test.YtlgmodeibmdcgaaDoorRefL6
set_option linter.unusedVariables false
set_option linter.unusedSimpArgs false
namespace Go.Proofs.YtlgmodeibmdcgaaDoor
open Go.RowKit

set_option maxHeartbeats 4000000 in
set_option maxRecDepth 100000 in
theorem loop10 {Q : Exit → Act → World → Prop} {wo : World} {hb sb : Nat} {Hs S : Nat → W32} (hh : Words wo hb 0 8 Hs) (hs : Words wo sb 0 8 S) (n1 : sb ≠ hb)
    (u0 u1 u2 u3 u4 u5 u6 u7 u8 u9 u10 u11 u12 u13 u14 u15 u16 u17 u18 u19 u20 u21 u22 u23 u24 u25 u26 u27 u28 u29 u30 u31 u32 u33 u34 u35 u36 u37 u38 u39 u40 u41 u42 u43 u44 u45 u46 u47 u48 u49 u50 u51 u52 u53 u54 u55 u56 u57 u58 u59 u60 u61 u62 u63 u64 u65 u66 u67 u68 u69 u70 u71 u72 u73 u74 u75 u76 u77 u78 u79 u80 u81 u82 u83 u84 u85 u86 u87 u88 u89 u90 u91 u92 u93 u94 u95 u96 u97 u98 u99 u100 u101 u102 u103 u104 u105 u106 u107 u108 u109 u110 u111 u112 u113 u114 u115 u116 u117 u118 u119 u120 u121 u122 u123 u124 u125 u126 u127 u128 u129 u130 u131 u132 u133 u134 u135 u136 u137 u138 u139 u140 u141 u142 u143 u144 u145 u146 u147 u148 u149 u150 u151 u152 u153 u154 u155 u156 u157 u158 u159 u160 u161 u162 u163 u164 u165 u166 u167 u168 u169 u170 u171 u172 u173 u174 u175 u176 u177 u178 u179 u180 u181 u182 u183 u184 u185 u186 u187 u188 u189 u190 u191 u192 u193 u194 u195 u196 u197 u198 u199 u200 u201 u202 u203 u204 u205 u206 u207 u208 u209 u210 u211 u212 u213 u214 : Value)
    (hQ : ∀ (w' : World) (x20 x190 x191 x192 x193 x194 x195 x196 x197 x198 x199 x200 x201 : Value), Words w' hb 0 8 (fun j => Hs j + S j) → Fr (fun i => i = hb) wo w' → Q (.exit 10) ⟨(u0 :: u1 :: u2 :: u3 :: .pointer (some ⟨hb, 0, none⟩) :: u5 :: u6 :: u7 :: u8 :: u9 :: u10 :: .pointer (some ⟨sb, 0, none⟩) :: u12 :: u13 :: u14 :: u15 :: u16 :: u17 :: u18 :: u19 :: x20 :: u21 :: u22 :: u23 :: u24 :: u25 :: u26 :: u27 :: u28 :: u29 :: u30 :: u31 :: u32 :: u33 :: u34 :: u35 :: u36 :: u37 :: u38 :: u39 :: u40 :: u41 :: u42 :: u43 :: u44 :: u45 :: u46 :: u47 :: u48 :: u49 :: u50 :: u51 :: u52 :: u53 :: u54 :: u55 :: u56 :: u57 :: u58 :: u59 :: u60 :: u61 :: u62 :: u63 :: u64 :: u65 :: u66 :: u67 :: u68 :: u69 :: u70 :: u71 :: u72 :: u73 :: u74 :: u75 :: u76 :: u77 :: u78 :: u79 :: u80 :: u81 :: u82 :: u83 :: u84 :: u85 :: u86 :: u87 :: u88 :: u89 :: u90 :: u91 :: u92 :: u93 :: u94 :: u95 :: u96 :: u97 :: u98 :: u99 :: u100 :: u101 :: u102 :: u103 :: u104 :: u105 :: u106 :: u107 :: u108 :: u109 :: u110 :: u111 :: u112 :: u113 :: u114 :: u115 :: u116 :: u117 :: u118 :: u119 :: u120 :: u121 :: u122 :: u123 :: u124 :: u125 :: u126 :: u127 :: u128 :: u129 :: u130 :: u131 :: u132 :: u133 :: u134 :: u135 :: u136 :: u137 :: u138 :: u139 :: u140 :: u141 :: u142 :: u143 :: u144 :: u145 :: u146 :: u147 :: u148 :: u149 :: u150 :: u151 :: u152 :: u153 :: u154 :: u155 :: u156 :: u157 :: u158 :: u159 :: u160 :: u161 :: u162 :: u163 :: u164 :: u165 :: u166 :: u167 :: u168 :: u169 :: u170 :: u171 :: u172 :: u173 :: u174 :: u175 :: u176 :: u177 :: u178 :: u179 :: u180 :: u181 :: u182 :: u183 :: u184 :: u185 :: u186 :: u187 :: u188 :: u189 :: x190 :: x191 :: x192 :: x193 :: x194 :: x195 :: x196 :: x197 :: x198 :: x199 :: x200 :: x201 :: u202 :: u203 :: u204 :: u205 :: u206 :: u207 :: u208 :: u209 :: u210 :: u211 :: u212 :: u213 :: u214 :: []).toArray, []⟩ w') :
    (inner Tryd.f21.body 10).wp Tryd.prog Q ⟨(u0 :: u1 :: u2 :: u3 :: .pointer (some ⟨hb, 0, none⟩) :: u5 :: u6 :: u7 :: u8 :: u9 :: u10 :: .pointer (some ⟨sb, 0, none⟩) :: u12 :: u13 :: u14 :: u15 :: u16 :: u17 :: u18 :: u19 :: .int .i64 0 :: u21 :: u22 :: u23 :: u24 :: u25 :: u26 :: u27 :: u28 :: u29 :: u30 :: u31 :: u32 :: u33 :: u34 :: u35 :: u36 :: u37 :: u38 :: u39 :: u40 :: u41 :: u42 :: u43 :: u44 :: u45 :: u46 :: u47 :: u48 :: u49 :: u50 :: u51 :: u52 :: u53 :: u54 :: u55 :: u56 :: u57 :: u58 :: u59 :: u60 :: u61 :: u62 :: u63 :: u64 :: u65 :: u66 :: u67 :: u68 :: u69 :: u70 :: u71 :: u72 :: u73 :: u74 :: u75 :: u76 :: u77 :: u78 :: u79 :: u80 :: u81 :: u82 :: u83 :: u84 :: u85 :: u86 :: u87 :: u88 :: u89 :: u90 :: u91 :: u92 :: u93 :: u94 :: u95 :: u96 :: u97 :: u98 :: u99 :: u100 :: u101 :: u102 :: u103 :: u104 :: u105 :: u106 :: u107 :: u108 :: u109 :: u110 :: u111 :: u112 :: u113 :: u114 :: u115 :: u116 :: u117 :: u118 :: u119 :: u120 :: u121 :: u122 :: u123 :: u124 :: u125 :: u126 :: u127 :: u128 :: u129 :: u130 :: u131 :: u132 :: u133 :: u134 :: u135 :: u136 :: u137 :: u138 :: u139 :: u140 :: u141 :: u142 :: u143 :: u144 :: u145 :: u146 :: u147 :: u148 :: u149 :: u150 :: u151 :: u152 :: u153 :: u154 :: u155 :: u156 :: u157 :: u158 :: u159 :: u160 :: u161 :: u162 :: u163 :: u164 :: u165 :: u166 :: u167 :: u168 :: u169 :: u170 :: u171 :: u172 :: u173 :: u174 :: u175 :: u176 :: u177 :: u178 :: u179 :: u180 :: u181 :: u182 :: u183 :: u184 :: u185 :: u186 :: u187 :: u188 :: u189 :: u190 :: u191 :: u192 :: u193 :: u194 :: u195 :: u196 :: u197 :: u198 :: u199 :: u200 :: u201 :: u202 :: u203 :: u204 :: u205 :: u206 :: u207 :: u208 :: u209 :: u210 :: u211 :: u212 :: u213 :: u214 :: []).toArray, []⟩ wo := by
  have HI := Lib.hid (And.intro hh (And.intro hs (And.intro n1 hQ)))
  clear hs hh hQ
  generalize hc : inner Tryd.f21.body 10 = c
  simp only [Tryd.f21, inner, find, Nat.reduceBEq, Bool.false_eq_true, ↓reduceIte, beq_self_eq_true] at hc
  subst hc
  go_loopw [20] (fun s wr => ∃ k : Nat, k ≤ 8 ∧ s = .int .i64 (k : Int) ∧ Hid (Words wr hb 0 8 (fun j => if j < k then Hs j + S j else Hs j) ∧ Words wr sb 0 8 S ∧ Fr (fun i => i = hb) wo wr)) (fun s _ => 8 - (intOf s).toNat)
  case atStart => exact ⟨0, by omega, rfl, HI.out.1.congr (fun j hj => by simp), HI.out.2.1, Fr.refl _ _⟩
  case round =>
    obtain ⟨k, hk, rfl, J⟩ := hrel
    have hk0 : (0 : Int) ≤ (k : Int) := Int.natCast_nonneg _
    by_cases hlt : k < 8
    · have hk1 : (k : Int) < 8 := by omega
      have c1 := J.out.1.cell hlt
      have c2 := J.out.2.1.cell hlt
      have z1 := J.out.1.free k
      rw [if_neg (by omega)] at c1
      rw [Nat.zero_add] at c1 c2
      have a1 := add0 hb k
      have a2 := add0 sb k
      have hset := J.out.1.set hlt (Hs k + S k)
      rw [Nat.zero_add] at hset
      obtain ⟨x, hx⟩ : ∃ x, Hs k = x := ⟨_, rfl⟩
      obtain ⟨y, hy⟩ : ∃ y, S k = y := ⟨_, rfl⟩
      rw [hx] at c1
      rw [hy] at c2
      rw [hx, hy] at hset
      have d1 := U_add x y
      have HS := Lib.hid (And.intro hset (And.intro hx hy))
      clear hset hx hy
      go_wp2_with fail
      go_region
      all_goals
        go_wp2_with fail
        go_roundw
        case rel =>
          refine ⟨k + 1, by omega, by go_num, (HS.out.1.fr0 ((Fr.refl No _).drew)).congr (fun j hj => ?_), (J.out.2.1.fr (S := fun i => i = hb) ((Fr.set (F := fun i => i = hb) (Fr.refl (fun i => i = hb) wr) ⟨hb, k, none⟩ (.inl rfl) _).drew) n1), (J.out.2.2.trans ((Fr.set (F := fun i => i = hb) (Fr.refl (fun i => i = hb) wr) ⟨hb, k, none⟩ (.inl rfl) _).mono fun i _ e => .inl e)).drew⟩
          unfold upd
          by_cases e : j = k
          · subst e; rw [if_pos rfl, if_pos (by omega), HS.out.2.1, HS.out.2.2]
          · rw [if_neg e]
            dsimp only
            by_cases e2 : j < k
            · rw [if_pos e2, if_pos (by omega)]
            · rw [if_neg e2, if_neg (by omega)]
        case measure => simp [intOf]; omega
    · obtain rfl : k = 8 := by omega
      go_wp2_with fail
      exact HI.out.2.2.2 _ _ _ _ _ _ _ _ _ _ _ _ _ _ (J.out.1.congr fun j hj => by rw [if_pos hj]) J.out.2.2
end Go.Proofs.YtlgmodeibmdcgaaDoor
