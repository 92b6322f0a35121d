/- Texts of this claim, one behind the other: RefL10, RefL12, RefL2. -/
import Derived.Test.YtlmhphejgahfbaaGreatDoorMrowledgerdeletes30
import Derived.Test.YtlmhphejgahfbaaGreatDoorMrowledgerdeletes6
/- Reference 3 (sha): Sum: the state's sum. -/
set_option linter.unusedVariables false
set_option linter.unusedSimpArgs false
namespace Go.Proofs.YtlmhphejgahfbaaGreatDoor
open Go.RowKit

set_option maxHeartbeats 4000000 in
set_option maxRecDepth 100000 in
theorem loop10 {Q : Exit → Act → World → Prop} {wo : World} {hb sb : Nat} {Hs S : Nat → W32} (hh : Words wo hb 0 8 Hs) (hs : Words wo sb 0 8 S) (n1 : sb ≠ hb)
    (u0 u1 u2 u3 u4 u5 u6 u7 u8 u9 u10 u11 u12 u13 u14 u15 u16 u17 u18 u19 u20 u21 u22 u23 u24 u25 u26 u27 u28 u29 u30 u31 u32 u33 u34 u35 u36 u37 u38 u39 u40 u41 u42 u43 u44 u45 u46 u47 u48 u49 u50 u51 u52 u53 u54 u55 u56 u57 u58 u59 u60 u61 u62 u63 u64 u65 u66 u67 u68 u69 u70 u71 u72 u73 u74 u75 u76 u77 u78 u79 u80 u81 u82 u83 u84 u85 u86 u87 u88 u89 u90 u91 u92 u93 u94 u95 u96 u97 u98 u99 u100 u101 u102 u103 u104 u105 u106 u107 u108 u109 u110 u111 u112 u113 u114 u115 u116 u117 u118 u119 u120 u121 u122 u123 u124 u125 u126 u127 u128 u129 u130 u131 u132 u133 u134 u135 u136 u137 u138 u139 u140 u141 u142 u143 u144 u145 u146 u147 u148 u149 u150 u151 u152 u153 u154 u155 u156 u157 u158 u159 u160 u161 u162 u163 u164 u165 u166 u167 u168 u169 u170 u171 u172 u173 u174 u175 u176 u177 u178 u179 u180 u181 u182 u183 u184 u185 u186 u187 u188 u189 u190 u191 u192 u193 u194 u195 u196 u197 u198 u199 u200 u201 u202 u203 u204 u205 u206 u207 u208 u209 u210 u211 u212 u213 u214 : Value)
    (hQ : ∀ (w' : World) (x20 x190 x191 x192 x193 x194 x195 x196 x197 x198 x199 x200 x201 : Value), Words w' hb 0 8 (fun j => Hs j + S j) → Fr (fun i => i = hb) wo w' → Q (.exit 10) ⟨(u0 :: u1 :: u2 :: u3 :: .pointer (some ⟨hb, 0, none⟩) :: u5 :: u6 :: u7 :: u8 :: u9 :: u10 :: .pointer (some ⟨sb, 0, none⟩) :: u12 :: u13 :: u14 :: u15 :: u16 :: u17 :: u18 :: u19 :: x20 :: u21 :: u22 :: u23 :: u24 :: u25 :: u26 :: u27 :: u28 :: u29 :: u30 :: u31 :: u32 :: u33 :: u34 :: u35 :: u36 :: u37 :: u38 :: u39 :: u40 :: u41 :: u42 :: u43 :: u44 :: u45 :: u46 :: u47 :: u48 :: u49 :: u50 :: u51 :: u52 :: u53 :: u54 :: u55 :: u56 :: u57 :: u58 :: u59 :: u60 :: u61 :: u62 :: u63 :: u64 :: u65 :: u66 :: u67 :: u68 :: u69 :: u70 :: u71 :: u72 :: u73 :: u74 :: u75 :: u76 :: u77 :: u78 :: u79 :: u80 :: u81 :: u82 :: u83 :: u84 :: u85 :: u86 :: u87 :: u88 :: u89 :: u90 :: u91 :: u92 :: u93 :: u94 :: u95 :: u96 :: u97 :: u98 :: u99 :: u100 :: u101 :: u102 :: u103 :: u104 :: u105 :: u106 :: u107 :: u108 :: u109 :: u110 :: u111 :: u112 :: u113 :: u114 :: u115 :: u116 :: u117 :: u118 :: u119 :: u120 :: u121 :: u122 :: u123 :: u124 :: u125 :: u126 :: u127 :: u128 :: u129 :: u130 :: u131 :: u132 :: u133 :: u134 :: u135 :: u136 :: u137 :: u138 :: u139 :: u140 :: u141 :: u142 :: u143 :: u144 :: u145 :: u146 :: u147 :: u148 :: u149 :: u150 :: u151 :: u152 :: u153 :: u154 :: u155 :: u156 :: u157 :: u158 :: u159 :: u160 :: u161 :: u162 :: u163 :: u164 :: u165 :: u166 :: u167 :: u168 :: u169 :: u170 :: u171 :: u172 :: u173 :: u174 :: u175 :: u176 :: u177 :: u178 :: u179 :: u180 :: u181 :: u182 :: u183 :: u184 :: u185 :: u186 :: u187 :: u188 :: u189 :: x190 :: x191 :: x192 :: x193 :: x194 :: x195 :: x196 :: x197 :: x198 :: x199 :: x200 :: x201 :: u202 :: u203 :: u204 :: u205 :: u206 :: u207 :: u208 :: u209 :: u210 :: u211 :: u212 :: u213 :: u214 :: []).toArray, []⟩ w') :
    (inner Tryz.f43.body 10).wp Tryz.prog Q ⟨(u0 :: u1 :: u2 :: u3 :: .pointer (some ⟨hb, 0, none⟩) :: u5 :: u6 :: u7 :: u8 :: u9 :: u10 :: .pointer (some ⟨sb, 0, none⟩) :: u12 :: u13 :: u14 :: u15 :: u16 :: u17 :: u18 :: u19 :: .int .i64 0 :: u21 :: u22 :: u23 :: u24 :: u25 :: u26 :: u27 :: u28 :: u29 :: u30 :: u31 :: u32 :: u33 :: u34 :: u35 :: u36 :: u37 :: u38 :: u39 :: u40 :: u41 :: u42 :: u43 :: u44 :: u45 :: u46 :: u47 :: u48 :: u49 :: u50 :: u51 :: u52 :: u53 :: u54 :: u55 :: u56 :: u57 :: u58 :: u59 :: u60 :: u61 :: u62 :: u63 :: u64 :: u65 :: u66 :: u67 :: u68 :: u69 :: u70 :: u71 :: u72 :: u73 :: u74 :: u75 :: u76 :: u77 :: u78 :: u79 :: u80 :: u81 :: u82 :: u83 :: u84 :: u85 :: u86 :: u87 :: u88 :: u89 :: u90 :: u91 :: u92 :: u93 :: u94 :: u95 :: u96 :: u97 :: u98 :: u99 :: u100 :: u101 :: u102 :: u103 :: u104 :: u105 :: u106 :: u107 :: u108 :: u109 :: u110 :: u111 :: u112 :: u113 :: u114 :: u115 :: u116 :: u117 :: u118 :: u119 :: u120 :: u121 :: u122 :: u123 :: u124 :: u125 :: u126 :: u127 :: u128 :: u129 :: u130 :: u131 :: u132 :: u133 :: u134 :: u135 :: u136 :: u137 :: u138 :: u139 :: u140 :: u141 :: u142 :: u143 :: u144 :: u145 :: u146 :: u147 :: u148 :: u149 :: u150 :: u151 :: u152 :: u153 :: u154 :: u155 :: u156 :: u157 :: u158 :: u159 :: u160 :: u161 :: u162 :: u163 :: u164 :: u165 :: u166 :: u167 :: u168 :: u169 :: u170 :: u171 :: u172 :: u173 :: u174 :: u175 :: u176 :: u177 :: u178 :: u179 :: u180 :: u181 :: u182 :: u183 :: u184 :: u185 :: u186 :: u187 :: u188 :: u189 :: u190 :: u191 :: u192 :: u193 :: u194 :: u195 :: u196 :: u197 :: u198 :: u199 :: u200 :: u201 :: u202 :: u203 :: u204 :: u205 :: u206 :: u207 :: u208 :: u209 :: u210 :: u211 :: u212 :: u213 :: u214 :: []).toArray, []⟩ wo := by
  have HI := Lib.hid (And.intro hh (And.intro hs (And.intro n1 hQ)))
  clear hs hh hQ
  generalize hc : inner Tryz.f43.body 10 = c
  simp only [Tryz.f43, inner, find, Nat.reduceBEq, Bool.false_eq_true, ↓reduceIte, beq_self_eq_true] at hc
  subst hc
  go_loopw [20] (fun s wr => ∃ k : Nat, k ≤ 8 ∧ s = .int .i64 (k : Int) ∧ Hid (Words wr hb 0 8 (fun j => if j < k then Hs j + S j else Hs j) ∧ Words wr sb 0 8 S ∧ Fr (fun i => i = hb) wo wr)) (fun s _ => 8 - (intOf s).toNat)
  case atStart => exact ⟨0, by omega, rfl, HI.out.1.congr (fun j hj => by simp), HI.out.2.1, Fr.refl _ _⟩
  case round =>
    obtain ⟨k, hk, rfl, J⟩ := hrel
    have hk0 : (0 : Int) ≤ (k : Int) := Int.natCast_nonneg _
    by_cases hlt : k < 8
    · have hk1 : (k : Int) < 8 := by omega
      have c1 := J.out.1.cell hlt
      have c2 := J.out.2.1.cell hlt
      have z1 := J.out.1.free k
      rw [if_neg (by omega)] at c1
      rw [Nat.zero_add] at c1 c2
      have a1 := add0 hb k
      have a2 := add0 sb k
      have hset := J.out.1.set hlt (Hs k + S k)
      rw [Nat.zero_add] at hset
      obtain ⟨x, hx⟩ : ∃ x, Hs k = x := ⟨_, rfl⟩
      obtain ⟨y, hy⟩ : ∃ y, S k = y := ⟨_, rfl⟩
      rw [hx] at c1
      rw [hy] at c2
      rw [hx, hy] at hset
      have d1 := U_add x y
      have HS := Lib.hid (And.intro hset (And.intro hx hy))
      clear hset hx hy
      go_wp2_with fail
      go_region
      all_goals
        go_wp2_with fail
        go_roundw
        case rel =>
          refine ⟨k + 1, by omega, by go_num, (HS.out.1.fr0 ((Fr.refl No _).drew)).congr (fun j hj => ?_), (J.out.2.1.fr (S := fun i => i = hb) ((Fr.set (F := fun i => i = hb) (Fr.refl (fun i => i = hb) wr) ⟨hb, k, none⟩ (.inl rfl) _).drew) n1), (J.out.2.2.trans ((Fr.set (F := fun i => i = hb) (Fr.refl (fun i => i = hb) wr) ⟨hb, k, none⟩ (.inl rfl) _).mono fun i _ e => .inl e)).drew⟩
          unfold upd
          by_cases e : j = k
          · subst e; rw [if_pos rfl, if_pos (by omega), HS.out.2.1, HS.out.2.2]
          · rw [if_neg e]
            dsimp only
            by_cases e2 : j < k
            · rw [if_pos e2, if_pos (by omega)]
            · rw [if_neg e2, if_neg (by omega)]
        case measure => simp [intOf]; omega
    · obtain rfl : k = 8 := by omega
      go_wp2_with fail
      exact HI.out.2.2.2 _ _ _ _ _ _ _ _ _ _ _ _ _ _ (J.out.1.congr fun j hj => by rw [if_pos hj]) J.out.2.2
end Go.Proofs.YtlmhphejgahfbaaGreatDoor
/- Reference 3 (sha): Sum: what comes out. -/
set_option linter.unusedVariables false
set_option linter.unusedSimpArgs false
namespace Go.Proofs.YtlmhphejgahfbaaGreatDoor
open Go.RowKit

set_option maxHeartbeats 4000000 in
set_option maxRecDepth 100000 in
theorem loop12 {Q : Exit → Act → World → Prop} {wo : World} {hb : Nat} {Hs : Nat → W32} (hh : Words wo hb 0 8 Hs)
    (u0 u1 u2 u3 u4 u5 u6 u7 u8 u9 u10 u11 u12 u13 u14 u15 u16 u17 u18 u19 u20 u21 u22 u23 u24 u25 u26 u27 u28 u29 u30 u31 u32 u33 u34 u35 u36 u37 u38 u39 u40 u41 u42 u43 u44 u45 u46 u47 u48 u49 u50 u51 u52 u53 u54 u55 u56 u57 u58 u59 u60 u61 u62 u63 u64 u65 u66 u67 u68 u69 u70 u71 u72 u73 u74 u75 u76 u77 u78 u79 u80 u81 u82 u83 u84 u85 u86 u87 u88 u89 u90 u91 u92 u93 u94 u95 u96 u97 u98 u99 u100 u101 u102 u103 u104 u105 u106 u107 u108 u109 u110 u111 u112 u113 u114 u115 u116 u117 u118 u119 u120 u121 u122 u123 u124 u125 u126 u127 u128 u129 u130 u131 u132 u133 u134 u135 u136 u137 u138 u139 u140 u141 u142 u143 u144 u145 u146 u147 u148 u149 u150 u151 u152 u153 u154 u155 u156 u157 u158 u159 u160 u161 u162 u163 u164 u165 u166 u167 u168 u169 u170 u171 u172 u173 u174 u175 u176 u177 u178 u179 u180 u181 u182 u183 u184 u185 u186 u187 u188 u189 u190 u191 u192 u193 u194 u195 u196 u197 u198 u199 u200 u201 u202 u203 u204 u205 u206 u207 u208 u209 u210 u211 u212 u213 u214 : Value)
    (hQ : ∀ (w' : World) (A : Option Addr) (c : Nat) (x22 x202 x203 x204 x205 x206 x207 x208 x209 x210 x211 x212 : Value), Ow Ty.u8 5 w' (fun i => wo.heap.size ≤ i) (.slice A 32 c) (outB Hs 8) → Fr No wo w' → Q (.exit 12) ⟨(u0 :: u1 :: u2 :: u3 :: .pointer (some ⟨hb, 0, none⟩) :: u5 :: u6 :: u7 :: u8 :: u9 :: u10 :: u11 :: u12 :: u13 :: u14 :: u15 :: u16 :: u17 :: u18 :: u19 :: u20 :: .slice A 32 c :: x22 :: u23 :: u24 :: u25 :: u26 :: u27 :: u28 :: u29 :: u30 :: u31 :: u32 :: u33 :: u34 :: u35 :: u36 :: u37 :: u38 :: u39 :: u40 :: u41 :: u42 :: u43 :: u44 :: u45 :: u46 :: u47 :: u48 :: u49 :: u50 :: u51 :: u52 :: u53 :: u54 :: u55 :: u56 :: u57 :: u58 :: u59 :: u60 :: u61 :: u62 :: u63 :: u64 :: u65 :: u66 :: u67 :: u68 :: u69 :: u70 :: u71 :: u72 :: u73 :: u74 :: u75 :: u76 :: u77 :: u78 :: u79 :: u80 :: u81 :: u82 :: u83 :: u84 :: u85 :: u86 :: u87 :: u88 :: u89 :: u90 :: u91 :: u92 :: u93 :: u94 :: u95 :: u96 :: u97 :: u98 :: u99 :: u100 :: u101 :: u102 :: u103 :: u104 :: u105 :: u106 :: u107 :: u108 :: u109 :: u110 :: u111 :: u112 :: u113 :: u114 :: u115 :: u116 :: u117 :: u118 :: u119 :: u120 :: u121 :: u122 :: u123 :: u124 :: u125 :: u126 :: u127 :: u128 :: u129 :: u130 :: u131 :: u132 :: u133 :: u134 :: u135 :: u136 :: u137 :: u138 :: u139 :: u140 :: u141 :: u142 :: u143 :: u144 :: u145 :: u146 :: u147 :: u148 :: u149 :: u150 :: u151 :: u152 :: u153 :: u154 :: u155 :: u156 :: u157 :: u158 :: u159 :: u160 :: u161 :: u162 :: u163 :: u164 :: u165 :: u166 :: u167 :: u168 :: u169 :: u170 :: u171 :: u172 :: u173 :: u174 :: u175 :: u176 :: u177 :: u178 :: u179 :: u180 :: u181 :: u182 :: u183 :: u184 :: u185 :: u186 :: u187 :: u188 :: u189 :: u190 :: u191 :: u192 :: u193 :: u194 :: u195 :: u196 :: u197 :: u198 :: u199 :: u200 :: u201 :: x202 :: x203 :: x204 :: x205 :: x206 :: x207 :: x208 :: x209 :: x210 :: x211 :: x212 :: u213 :: u214 :: []).toArray, []⟩ w') :
    (inner Tryz.f43.body 12).wp Tryz.prog Q ⟨(u0 :: u1 :: u2 :: u3 :: .pointer (some ⟨hb, 0, none⟩) :: u5 :: u6 :: u7 :: u8 :: u9 :: u10 :: u11 :: u12 :: u13 :: u14 :: u15 :: u16 :: u17 :: u18 :: u19 :: u20 :: .slice none 0 0 :: .int .i64 0 :: u23 :: u24 :: u25 :: u26 :: u27 :: u28 :: u29 :: u30 :: u31 :: u32 :: u33 :: u34 :: u35 :: u36 :: u37 :: u38 :: u39 :: u40 :: u41 :: u42 :: u43 :: u44 :: u45 :: u46 :: u47 :: u48 :: u49 :: u50 :: u51 :: u52 :: u53 :: u54 :: u55 :: u56 :: u57 :: u58 :: u59 :: u60 :: u61 :: u62 :: u63 :: u64 :: u65 :: u66 :: u67 :: u68 :: u69 :: u70 :: u71 :: u72 :: u73 :: u74 :: u75 :: u76 :: u77 :: u78 :: u79 :: u80 :: u81 :: u82 :: u83 :: u84 :: u85 :: u86 :: u87 :: u88 :: u89 :: u90 :: u91 :: u92 :: u93 :: u94 :: u95 :: u96 :: u97 :: u98 :: u99 :: u100 :: u101 :: u102 :: u103 :: u104 :: u105 :: u106 :: u107 :: u108 :: u109 :: u110 :: u111 :: u112 :: u113 :: u114 :: u115 :: u116 :: u117 :: u118 :: u119 :: u120 :: u121 :: u122 :: u123 :: u124 :: u125 :: u126 :: u127 :: u128 :: u129 :: u130 :: u131 :: u132 :: u133 :: u134 :: u135 :: u136 :: u137 :: u138 :: u139 :: u140 :: u141 :: u142 :: u143 :: u144 :: u145 :: u146 :: u147 :: u148 :: u149 :: u150 :: u151 :: u152 :: u153 :: u154 :: u155 :: u156 :: u157 :: u158 :: u159 :: u160 :: u161 :: u162 :: u163 :: u164 :: u165 :: u166 :: u167 :: u168 :: u169 :: u170 :: u171 :: u172 :: u173 :: u174 :: u175 :: u176 :: u177 :: u178 :: u179 :: u180 :: u181 :: u182 :: u183 :: u184 :: u185 :: u186 :: u187 :: u188 :: u189 :: u190 :: u191 :: u192 :: u193 :: u194 :: u195 :: u196 :: u197 :: u198 :: u199 :: u200 :: u201 :: u202 :: u203 :: u204 :: u205 :: u206 :: u207 :: u208 :: u209 :: u210 :: u211 :: u212 :: u213 :: u214 :: []).toArray, []⟩ wo := by
  have HI := Lib.hid (And.intro hh hQ)
  clear hh hQ
  generalize hc : inner Tryz.f43.body 12 = c
  simp only [Tryz.f43, inner, find, Nat.reduceBEq, Bool.false_eq_true, ↓reduceIte, beq_self_eq_true] at hc
  subst hc
  go_loopw [21, 22] (fun v s wr => ∃ k : Nat, k ≤ 8 ∧ s = .int .i64 (k : Int) ∧ ∃ A n c, v = .slice A n c ∧ Hid (n = 4 * k ∧ Ow Ty.u8 5 wr (fun i => wo.heap.size ≤ i) (.slice A n c) (outB Hs k) ∧ Fr No wo wr)) (fun _ s _ => 8 - (intOf s).toNat)
  case atStart => exact ⟨0, by omega, rfl, none, 0, 0, rfl, rfl, Ow.nil, Fr.refl _ _⟩
  case round =>
    obtain ⟨k, hk, rfl, A, n, c, rfl, J⟩ := hrel
    have hk0 : (0 : Int) ≤ (k : Int) := Int.natCast_nonneg _
    by_cases hlt : k < 8
    · have hk1 : (k : Int) < 8 := by omega
      have c1 := (HI.out.1.fr0 J.out.2.2).cell hlt
      rw [Nat.zero_add] at c1
      have a1 := add0 hb k
      obtain ⟨x, hx⟩ : ∃ x, Hs k = x := ⟨_, rfl⟩
      rw [hx] at c1
      have hU0 := U_nonneg x
      have hU1 := U_lt x
      have hw64 : IntKind.u64.wrap (U x) = U x := by show (U x) % 18446744073709551616 = _; omega
      have hnum := num_ok (w := wr) (n := x.toNat) (k := 4) (by have := x.isLt; omega) (by decide)
      rw [show ((x.toNat : Nat) : Int) = U x from rfl, show ((4 : Nat) : Int) = 4 from rfl] at hnum
      have HN := Lib.hid (And.intro hnum (And.intro J.out hx))
      clear hnum hx J hU0 hU1
      go_wp2_with fail
      refine HN.out.1.mono ?_
      rintro e3 w3 ⟨A3, c3, rfl, hO3, hf3⟩
      obtain ⟨cs, hrow, hat⟩ := hO3.rd.2.2.at
      have hl : (outB Hs k).length = n := by rw [outB_len, HN.out.2.1.1]
      obtain ⟨A4, c4, w4, hrun, hO4, hg4, _⟩ := run_ow_append (P := Tryz.prog) (ty := 46) (ty' := 46) Ty.u8 (HN.out.2.1.2.1.fr0 hf3) (.int .u8 0) 1 Tryz.underlying46 info_u8 rfl (by decide) (by decide) c3 (ys := beN x.toNat 4) (hrow.imp fun _ _ h => h) hat (by rw [hl, beN_len, HN.out.2.1.1]; omega)
      rw [hl, beN_len] at hrun hO4
      have hnext : outB Hs k ++ beN x.toNat 4 = outB Hs (k + 1) := by show _ = outB Hs k ++ be4 (Hs k); rw [be4_beN, HN.out.2.2]
      rw [hnext] at hO4
      have hF4 : Fr No wo w4 := (HN.out.2.1.2.2.trans (hf3.mono fun _ _ f => f.elim)).grown hg4 fun i hi => .inr (HN.out.2.1.2.1.own hi).1
      have hsz : wo.heap.size ≤ w3.heap.size := Nat.le_trans HN.out.2.1.2.2.size hf3.size
      have H4 := Lib.hid (And.intro (hO4.mono (G := fun i => wo.heap.size ≤ i) fun i hi _ => by rcases hi with h | h <;> omega) hF4)
      clear hO4 hF4 hsz hnext hl hg4 hat hrow hO3 hf3
      go_wp2_with (at_builtin; refine wpList_plain rfl fun K hK => wp_append_run _ _ _ _ rfl rfl rfl hrun (hK _ _ ?_))
      go_roundw
      case rel => exact ⟨k + 1, by omega, by go_num, A4, n + 4, c4, rfl, by have := HN.out.2.1.1; omega, H4.out.1, H4.out.2⟩
      case measure => simp [intOf]; omega
    · obtain rfl : k = 8 := by omega
      obtain rfl : n = 32 := J.out.1
      go_wp2_with fail
      exact HI.out.2 _ A c _ _ _ _ _ _ _ _ _ _ _ _ J.out.2.1 J.out.2.2
end Go.Proofs.YtlmhphejgahfbaaGreatDoor
/- Reference 3 (sha): Sum: the blocks. -/
set_option linter.unusedVariables false
set_option linter.unusedSimpArgs false
namespace Go.Proofs.YtlmhphejgahfbaaGreatDoor
open Go.RowKit

set_option maxHeartbeats 4000000 in
set_option maxRecDepth 100000 in
theorem loop2 {Q : Exit → Act → World → Prop} {wo : World} {F : Nat → Prop} {kb hb M c4 : Nat} {ad : Addr} {PD : Bs} {Hs : Nat → W32} (hk : Words wo kb 0 64 Kc) (hh : Words wo hb 0 8 Hs) (hR : Rd Ty.u8 wo F (some ad) PD) (hF : ¬ F hb) (n1 : kb ≠ hb) (hM : M = PD.length) (hMc : M ≤ c4) (hMi : M ≤ 3000000000) (hM64 : M % 64 = 0)
    (u0 u1 u2 u3 u4 u5 u6 u7 u8 u9 u10 u11 u12 u13 u14 u15 u16 u17 u18 u19 u20 u21 u22 u23 u24 u25 u26 u27 u28 u29 u30 u31 u32 u33 u34 u35 u36 u37 u38 u39 u40 u41 u42 u43 u44 u45 u46 u47 u48 u49 u50 u51 u52 u53 u54 u55 u56 u57 u58 u59 u60 u61 u62 u63 u64 u65 u66 u67 u68 u69 u70 u71 u72 u73 u74 u75 u76 u77 u78 u79 u80 u81 u82 u83 u84 u85 u86 u87 u88 u89 u90 u91 u92 u93 u94 u95 u96 u97 u98 u99 u100 u101 u102 u103 u104 u105 u106 u107 u108 u109 u110 u111 u112 u113 u114 u115 u116 u117 u118 u119 u120 u121 u122 u123 u124 u125 u126 u127 u128 u129 u130 u131 u132 u133 u134 u135 u136 u137 u138 u139 u140 u141 u142 u143 u144 u145 u146 u147 u148 u149 u150 u151 u152 u153 u154 u155 u156 u157 u158 u159 u160 u161 u162 u163 u164 u165 u166 u167 u168 u169 u170 u171 u172 u173 u174 u175 u176 u177 u178 u179 u180 u181 u182 u183 u184 u185 u186 u187 u188 u189 u190 u191 u192 u193 u194 u195 u196 u197 u198 u199 u200 u201 u202 u203 u204 u205 u206 u207 u208 u209 u210 u211 u212 u213 u214 : Value)
    (hQ : ∀ (w' : World) (x6 x7 x8 x9 x10 x11 x12 x13 x14 x15 x16 x17 x18 x19 x20 x42 x43 x44 x45 x46 x47 x48 x49 x50 x51 x52 x53 x54 x55 x56 x57 x58 x59 x60 x61 x62 x63 x64 x65 x66 x67 x68 x69 x70 x71 x72 x73 x74 x75 x76 x77 x78 x79 x80 x81 x82 x83 x84 x85 x86 x87 x88 x89 x90 x91 x92 x93 x94 x95 x96 x97 x98 x99 x100 x101 x102 x103 x104 x105 x106 x107 x108 x109 x110 x111 x112 x113 x114 x115 x116 x117 x118 x119 x120 x121 x122 x123 x124 x125 x126 x127 x128 x129 x130 x131 x132 x133 x134 x135 x136 x137 x138 x139 x140 x141 x142 x143 x144 x145 x146 x147 x148 x149 x150 x151 x152 x153 x154 x155 x156 x157 x158 x159 x160 x161 x162 x163 x164 x165 x166 x167 x168 x169 x170 x171 x172 x173 x174 x175 x176 x177 x178 x179 x180 x181 x182 x183 x184 x185 x186 x187 x188 x189 x190 x191 x192 x193 x194 x195 x196 x197 x198 x199 x200 x201 : Value), Words w' hb 0 8 (feed Hs PD).1 → Fr (fun i => i = hb) wo w' → Q (.exit 2) ⟨(u0 :: u1 :: u2 :: .pointer (some ⟨kb, 0, none⟩) :: .pointer (some ⟨hb, 0, none⟩) :: .slice (some ad) M c4 :: x6 :: x7 :: x8 :: x9 :: x10 :: x11 :: x12 :: x13 :: x14 :: x15 :: x16 :: x17 :: x18 :: x19 :: x20 :: u21 :: u22 :: u23 :: u24 :: u25 :: u26 :: u27 :: u28 :: u29 :: u30 :: u31 :: u32 :: u33 :: u34 :: u35 :: u36 :: u37 :: u38 :: u39 :: u40 :: u41 :: x42 :: x43 :: x44 :: x45 :: x46 :: x47 :: x48 :: x49 :: x50 :: x51 :: x52 :: x53 :: x54 :: x55 :: x56 :: x57 :: x58 :: x59 :: x60 :: x61 :: x62 :: x63 :: x64 :: x65 :: x66 :: x67 :: x68 :: x69 :: x70 :: x71 :: x72 :: x73 :: x74 :: x75 :: x76 :: x77 :: x78 :: x79 :: x80 :: x81 :: x82 :: x83 :: x84 :: x85 :: x86 :: x87 :: x88 :: x89 :: x90 :: x91 :: x92 :: x93 :: x94 :: x95 :: x96 :: x97 :: x98 :: x99 :: x100 :: x101 :: x102 :: x103 :: x104 :: x105 :: x106 :: x107 :: x108 :: x109 :: x110 :: x111 :: x112 :: x113 :: x114 :: x115 :: x116 :: x117 :: x118 :: x119 :: x120 :: x121 :: x122 :: x123 :: x124 :: x125 :: x126 :: x127 :: x128 :: x129 :: x130 :: x131 :: x132 :: x133 :: x134 :: x135 :: x136 :: x137 :: x138 :: x139 :: x140 :: x141 :: x142 :: x143 :: x144 :: x145 :: x146 :: x147 :: x148 :: x149 :: x150 :: x151 :: x152 :: x153 :: x154 :: x155 :: x156 :: x157 :: x158 :: x159 :: x160 :: x161 :: x162 :: x163 :: x164 :: x165 :: x166 :: x167 :: x168 :: x169 :: x170 :: x171 :: x172 :: x173 :: x174 :: x175 :: x176 :: x177 :: x178 :: x179 :: x180 :: x181 :: x182 :: x183 :: x184 :: x185 :: x186 :: x187 :: x188 :: x189 :: x190 :: x191 :: x192 :: x193 :: x194 :: x195 :: x196 :: x197 :: x198 :: x199 :: x200 :: x201 :: u202 :: u203 :: u204 :: u205 :: u206 :: u207 :: u208 :: u209 :: u210 :: u211 :: u212 :: u213 :: u214 :: []).toArray, []⟩ w') :
    (inner Tryz.f43.body 2).wp Tryz.prog Q ⟨(u0 :: u1 :: u2 :: .pointer (some ⟨kb, 0, none⟩) :: .pointer (some ⟨hb, 0, none⟩) :: .slice (some ad) M c4 :: .int .i64 0 :: u7 :: u8 :: u9 :: u10 :: u11 :: u12 :: u13 :: u14 :: u15 :: u16 :: u17 :: u18 :: u19 :: u20 :: u21 :: u22 :: u23 :: u24 :: u25 :: u26 :: u27 :: u28 :: u29 :: u30 :: u31 :: u32 :: u33 :: u34 :: u35 :: u36 :: u37 :: u38 :: u39 :: u40 :: u41 :: u42 :: u43 :: u44 :: u45 :: u46 :: u47 :: u48 :: u49 :: u50 :: u51 :: u52 :: u53 :: u54 :: u55 :: u56 :: u57 :: u58 :: u59 :: u60 :: u61 :: u62 :: u63 :: u64 :: u65 :: u66 :: u67 :: u68 :: u69 :: u70 :: u71 :: u72 :: u73 :: u74 :: u75 :: u76 :: u77 :: u78 :: u79 :: u80 :: u81 :: u82 :: u83 :: u84 :: u85 :: u86 :: u87 :: u88 :: u89 :: u90 :: u91 :: u92 :: u93 :: u94 :: u95 :: u96 :: u97 :: u98 :: u99 :: u100 :: u101 :: u102 :: u103 :: u104 :: u105 :: u106 :: u107 :: u108 :: u109 :: u110 :: u111 :: u112 :: u113 :: u114 :: u115 :: u116 :: u117 :: u118 :: u119 :: u120 :: u121 :: u122 :: u123 :: u124 :: u125 :: u126 :: u127 :: u128 :: u129 :: u130 :: u131 :: u132 :: u133 :: u134 :: u135 :: u136 :: u137 :: u138 :: u139 :: u140 :: u141 :: u142 :: u143 :: u144 :: u145 :: u146 :: u147 :: u148 :: u149 :: u150 :: u151 :: u152 :: u153 :: u154 :: u155 :: u156 :: u157 :: u158 :: u159 :: u160 :: u161 :: u162 :: u163 :: u164 :: u165 :: u166 :: u167 :: u168 :: u169 :: u170 :: u171 :: u172 :: u173 :: u174 :: u175 :: u176 :: u177 :: u178 :: u179 :: u180 :: u181 :: u182 :: u183 :: u184 :: u185 :: u186 :: u187 :: u188 :: u189 :: u190 :: u191 :: u192 :: u193 :: u194 :: u195 :: u196 :: u197 :: u198 :: u199 :: u200 :: u201 :: u202 :: u203 :: u204 :: u205 :: u206 :: u207 :: u208 :: u209 :: u210 :: u211 :: u212 :: u213 :: u214 :: []).toArray, []⟩ wo := by
  have hM3 : (M : Int) ≤ 3000000000 := by omega
  have HI := Lib.hid (And.intro hk (And.intro hh (And.intro hR.here (And.intro hF (And.intro n1 (And.intro hM (And.intro hMc (And.intro hMi (And.intro hM64 hQ)))))))))
  clear hk hh hR hF n1 hM hMc hMi hM64 hQ
  generalize hc : inner Tryz.f43.body 2 = c
  simp only [Tryz.f43, inner, find, Nat.reduceBEq, Bool.false_eq_true, ↓reduceIte, beq_self_eq_true] at hc
  subst hc
  go_loopw [6] (fun s wr => ∃ a : Nat, a ≤ M ∧ a % 64 = 0 ∧ s = .int .i64 (a : Int) ∧ Hid (∃ H, (feed H (PD.drop a)).1 = (feed Hs PD).1 ∧ Words wr hb 0 8 H ∧ Fr (fun i => i = hb) wo wr)) (fun s _ => M - (intOf s).toNat)
  case atStart => exact ⟨0, by omega, rfl, rfl, Hs, rfl, HI.out.2.1, Fr.refl _ _⟩
  case round =>
    obtain ⟨a, ha, ha64, rfl, J⟩ := hrel
    obtain ⟨H, hfeed, hH, hfr⟩ := J.out
    clear J
    have ha0 : (0 : Int) ≤ (a : Int) := Int.natCast_nonneg _
    by_cases hlt : a < M
    · have hlt' : (a : Int) < (M : Int) := by omega
      have HJ := Lib.hid (And.intro hfeed (And.intro hH hfr))
      clear hfeed hH hfr
      go_wp2_with (refine wpList_alloc64 rfl rfl ?_)
      obtain ⟨W0, hW0⟩ : ∃ W0, W0 = wr.alloc (.cells (Array.replicate 64 (.int .u32 0)) 162) := ⟨_, rfl⟩
      rw [← hW0]
      have hw0 : Words W0 wr.heap.size 0 64 (fun _ => 0) := by
        rw [hW0]
        refine Words.of (heap_alloc_new wr _) (by simp) fun j hj => ?_
        rw [Array.getElem?_replicate, if_pos hj]
        rfl
      have hf0 : Fr No wr W0 := by rw [hW0]; exact (Fr.refl No wr).alloc _
      have hRr : Rd Ty.u8 W0 (fun i => F i ∧ i < wo.heap.size) (some ad) PD := (HI.out.2.2.1.fr HJ.out.2.2 (fun i hi e => HI.out.2.2.2.1 (e ▸ hi.1))).fr0 hf0
      clear hW0
      refine loop4 hw0 hRr (fun h => by have := HJ.out.2.2.size; omega) HI.out.2.2.2.2.2.1 HI.out.2.2.2.2.2.2.1 HI.out.2.2.2.2.2.2.2.1 rfl (by have := HI.out.2.2.2.2.2.2.2.2.1; omega) _ _ _ _ _ (.pointer none) (.pointer none) (.pointer none) (.pointer none) _ _ _ _ _ _ _ _ _ _ _ _ _ _ _ _ _ _ _ _ _ _ _ _ _ _ _ _ _ _ _ _ _ _ _ _ _ _ _ _ _ _ _ _ _ _ _ _ _ _ _ _ _ _ _ _ _ _ _ _ _ _ _ _ _ _ _ _ _ _ _ _ _ _ _ _ _ _ _ _ _ _ _ _ _ _ _ _ _ _ _ _ _ _ _ _ _ _ _ _ _ _ _ _ _ _ _ _ _ _ _ _ _ _ _ _ _ _ _ _ _ _ _ _ _ _ _ _ _ _ _ _ _ _ _ _ _ _ _ _ _ _ _ _ _ _ _ _ _ _ _ _ _ _ _ _ _ _ _ _ _ _ _ _ _ _ _ _ _ _ _ _ _ _ _ _ _ _ _ _ _ _ _ _ _ _ _ _ _ _ _ _ _ _ _ _ _ _ _ _ _ _ _ _ _ _ ?_
      clear hw0 hRr
      intro w1 R x8 x9 x10 x48 x49 x50 x51 x52 x53 x54 x55 x56 x57 x58 x59 x60 x61 x62 x63 x64 x65 x66 x67 x68 x69 x70 x71 x72 x73 x74 x75 x76 x77 x78 x79 x80 x81 x82 x83 x84 x85 x86 x87 x88 x89 x90 x91 x92 x93 x94 x95 x96 x97 x98 x99 x100 x101 x102 x103 x104 x105 g1 g2 g3
      have hHw : Words w1 hb 0 8 H := (HJ.out.2.1.fr0 hf0).fr g3 (fun e => by have := HJ.out.2.1.lt; omega)
      have hlt1 : hb < wr.heap.size := HJ.out.2.1.lt
      have hlk : kb < wo.heap.size := HI.out.1.lt
      have hlh : hb < wo.heap.size := HI.out.2.1.lt
      have hzo := HJ.out.2.2.size
      have hz1 := hf0.size
      have hz2 := g3.size
      have hfr1 : Fr (fun i => i = hb) wo w1 := (HJ.out.2.2.next hf0 (fun _ _ f => f.elim)).next g3 (fun i hi e => by omega)
      have hkw : Words w1 kb 0 64 Kc := HI.out.1.fr hfr1 (fun e => HI.out.2.2.2.2.1 e)
      have hww := g1
      have c0 := hHw.cell (j := 0) (by decide)
      have c1 := hHw.cell (j := 1) (by decide)
      have c2 := hHw.cell (j := 2) (by decide)
      have c3 := hHw.cell (j := 3) (by decide)
      have c4' := hHw.cell (j := 4) (by decide)
      have c5 := hHw.cell (j := 5) (by decide)
      have c6 := hHw.cell (j := 6) (by decide)
      have c7 := hHw.cell (j := 7) (by decide)
      obtain ⟨W1, hW1⟩ : ∃ W1, W1 = w1.alloc (.cells #[.int .u32 (U (H 0)), .int .u32 (U (H 1)), .int .u32 (U (H 2)), .int .u32 (U (H 3)), .int .u32 (U (H 4)), .int .u32 (U (H 5)), .int .u32 (U (H 6)), .int .u32 (U (H 7))] 164) := ⟨_, rfl⟩
      have hfW : Fr No w1 W1 := by rw [hW1]; exact (Fr.refl No w1).alloc _
      have hsW : Words W1 w1.heap.size 0 8 H := by
        rw [hW1]
        refine ⟨_, _, heap_alloc_new w1 _, (by show 0 + 8 ≤ 8; decide), fun j hj => ?_⟩
        match j, hj with
        | 0, _ | 1, _ | 2, _ | 3, _ | 4, _ | 5, _ | 6, _ | 7, _ => rfl
        | n + 8, h => exact absurd h (by omega)
      have hsz1 : wr.heap.size < w1.heap.size := hww.lt
      have HK := Lib.hid (And.intro hsW (And.intro (hkw.fr0 hfW) (And.intro (hww.fr0 hfW) (And.intro (hHw.fr0 hfW) (And.intro (hfr1.next hfW (fun _ _ f => f.elim)) (And.intro g2 (And.intro hsz1 (And.intro hzo (And.intro hlt1 (And.intro hlk hlh))))))))))
      clear hsW hkw hww hHw hfr1 g1 g2 g3 hsz1 hzo hlt1 hlk hlh hfW hf0 hz1 hz2
      go_wp2_with fail
      clear c0 c1 c2 c3 c4' c5 c6 c7
      rw [← hW1]
      have hne1 : w1.heap.size ≠ kb := by have := HK.out.2.2.2.2.2.2.2.2.2.1; have := HK.out.2.2.2.2.2.2.2.1; have := HK.out.2.2.2.2.2.2.1; omega
      have hne2 : w1.heap.size ≠ wr.heap.size := by have := HK.out.2.2.2.2.2.2.1; omega
      have hne3 : w1.heap.size ≠ hb := by have := HK.out.2.2.2.2.2.2.2.2.1; have := HK.out.2.2.2.2.2.2.1; omega
      refine loop6 HK.out.1 HK.out.2.1 HK.out.2.2.1 HK.out.2.2.2.2.2.1 hne1 hne2 _ _ _ (.pointer none) _ _ _ (.pointer none) _ _ _ (.pointer none) (.pointer none) _ _ _ _ _ _ _ _ _ _ _ _ _ _ _ _ _ _ _ _ _ _ _ _ _ _ _ _ _ _ _ _ _ _ _ _ _ _ _ _ _ _ _ _ _ _ _ _ _ _ _ _ _ _ _ _ _ _ _ _ _ _ _ _ _ _ _ _ _ _ _ _ _ _ _ _ _ _ _ _ _ _ _ _ _ _ _ _ _ _ _ _ _ _ _ _ _ _ _ _ _ _ _ _ _ _ _ _ _ _ _ _ _ _ _ _ _ _ _ _ _ _ _ _ _ _ _ _ _ _ _ _ _ _ _ _ _ _ _ _ _ _ _ _ _ _ _ _ _ _ _ _ _ _ _ _ _ _ _ _ _ _ _ _ _ _ _ _ _ _ _ _ _ _ _ _ _ _ _ _ _ _ _ _ _ _ _ _ _ _ _ _ _ _ _ _ _ _ _ _ _ _ ?_
      clear hW1
      intro w2 x12 x13 x14 x15 x16 x17 x18 x19 x107 x108 x109 x110 x111 x112 x113 x114 x115 x116 x117 x118 x119 x120 x121 x122 x123 x124 x125 x126 x127 x128 x129 x130 x131 x132 x133 x134 x135 x136 x137 x138 x139 x140 x141 x142 x143 x144 x145 x146 x147 x148 x149 x150 x151 x152 x153 x154 x155 x156 x157 x158 x159 x160 x161 x162 x163 x164 x165 x166 x167 x168 x169 x170 x171 x172 x173 x174 x175 x176 x177 x178 x179 x180 x181 x182 x183 x184 x185 x186 x187 x188 x189 g1 g2
      have hh2 : Words w2 hb 0 8 H := HK.out.2.2.2.1.fr g2 (fun e => hne3 e.symm)
      have hfr2 : Fr (fun i => i = hb) wo w2 := HK.out.2.2.2.2.1.next g2 (fun i hi e => by have := HK.out.2.2.2.2.2.2.2.1; have := HK.out.2.2.2.2.2.2.1; omega)
      have HL := Lib.hid (And.intro hh2 (And.intro g1 hfr2))
      clear hh2 g1 g2 hfr2
      go_wp2_with fail
      refine loop10 HL.out.1 HL.out.2.1 hne3 _ _ _ _ (.pointer none) _ _ _ _ _ _ (.pointer none) _ _ _ _ _ _ _ _ (.pointer none) _ _ _ _ _ _ _ _ _ _ _ _ _ _ _ _ _ _ _ _ _ _ _ _ _ _ _ _ _ _ _ _ _ _ _ _ _ _ _ _ _ _ _ _ _ _ _ _ _ _ _ _ _ _ _ _ _ _ _ _ _ _ _ _ _ _ _ _ _ _ _ _ _ _ _ _ _ _ _ _ _ _ _ _ _ _ _ _ _ _ _ _ _ _ _ _ _ _ _ _ _ _ _ _ _ _ _ _ _ _ _ _ _ _ _ _ _ _ _ _ _ _ _ _ _ _ _ _ _ _ _ _ _ _ _ _ _ _ _ _ _ _ _ _ _ _ _ _ _ _ _ _ _ _ _ _ _ _ _ _ _ _ _ _ _ _ _ _ _ _ _ _ _ _ _ _ _ _ _ _ _ _ _ _ _ _ _ _ _ _ _ _ _ _ ?_
      intro w3 x20 x190 x191 x192 x193 x194 x195 x196 x197 x198 x199 x200 x201 g1 g2
      have hfeed : (feed (eatS H ((PD.drop a).take 64)) (PD.drop (a + 64))).1 = (feed Hs PD).1 := by
        rw [← HJ.out.1]
        conv => rhs; rw [feed_ge (by rw [List.length_drop]; have := HI.out.2.2.2.2.2.2.2.2.1; have := HI.out.2.2.2.2.2.1; omega)]
        rw [List.drop_drop]
      have HM := Lib.hid (And.intro hfeed (And.intro g1 (HL.out.2.2.next g2 (fun i hi e => e))))
      clear hfeed g1 g2 hne1 hne2 hne3
      have ha64' : a + 64 ≤ M := by have := HI.out.2.2.2.2.2.2.2.2.1; omega
      go_wp2_with fail
      go_roundw
      case rel => exact ⟨a + 64, ha64', by omega, by go_num, _, HM.out.1, HM.out.2.1, HM.out.2.2⟩
      case measure => simp [intOf]; omega
    · obtain rfl : a = M := by omega
      rw [HI.out.2.2.2.2.2.1, List.drop_length] at hfeed
      have e : (feed Hs PD).1 = H := by rw [← hfeed, feed_lt (by simp)]
      rw [← e] at hH
      have HJ := Lib.hid (And.intro hH hfr)
      clear hH hfr hfeed e
      go_wp2_with fail
      exact HI.out.2.2.2.2.2.2.2.2.2 _ _ _ _ _ _ _ _ _ _ _ _ _ _ _ _ _ _ _ _ _ _ _ _ _ _ _ _ _ _ _ _ _ _ _ _ _ _ _ _ _ _ _ _ _ _ _ _ _ _ _ _ _ _ _ _ _ _ _ _ _ _ _ _ _ _ _ _ _ _ _ _ _ _ _ _ _ _ _ _ _ _ _ _ _ _ _ _ _ _ _ _ _ _ _ _ _ _ _ _ _ _ _ _ _ _ _ _ _ _ _ _ _ _ _ _ _ _ _ _ _ _ _ _ _ _ _ _ _ _ _ _ _ _ _ _ _ _ _ _ _ _ _ _ _ _ _ _ _ _ _ _ _ _ _ _ _ _ _ _ _ _ _ _ _ _ _ _ _ _ _ _ _ _ _ _ HJ.out.1 HJ.out.2
end Go.Proofs.YtlmhphejgahfbaaGreatDoor
