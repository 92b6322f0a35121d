/- The keys that occur: no two have one sum. -/
import Derived.Test.YtlgmodeibmdcgaaDoorFast
set_option linter.unusedVariables false
set_option linter.unusedSimpArgs false
namespace Go.Proofs.YtlgmodeibmdcgaaDoor
open Go.RowKit

def wK : List Nat := [809018145, 2400554027, 2039488637, 1914376062, 2916946254, 4112748050, 1049388350, 172350727, 3569246253, 3302867896, 426977664, 592207415, 4145101883, 1992633301, 2314457443, 1516160727, 641156450, 1628280030, 329773598, 254180628, 3479379020, 3899772295, 1800757406, 3533418917]
def wX0 : List Nat := [351806898, 4125260104, 3650693455, 2914342311, 1618674154, 3641618223, 3679110547, 1543610104, 2564047585, 3022014900, 1942698072, 53813658, 258313232, 2305686956, 749283588, 2851497967, 535394852, 929794239, 4137616466, 3782746376, 1377412248, 1861308923, 392703498, 3453568075, 3570157010, 3516981601, 3022917419, 1327158609, 646269104, 3266007327, 1609964924, 2284288088]
def wX1 : List Nat := [717479977, 1077470813, 2762335141, 2123925820, 3960993299, 4236239920, 728819680, 3894108420, 970665609, 3440122185, 4028063885, 478101458, 1366278410, 3367374588, 3375300785, 907499494, 3070891246, 3962660911, 2219756552, 2219534788, 2038804680, 703740238, 85991950, 2364795837, 604652087, 96165636, 1373846652, 2701296807, 1597214899, 2900359028, 2226554930, 122335608]
def wX2 : List Nat := [1202475111, 1256783899, 3471230533, 2962369570, 2752913677, 1105878662, 2130302536, 2853269723, 2823368958, 1191761839, 2981837, 2704908189, 3218472304, 2093570260, 3668182115, 3119541807, 3957997203, 1056706471, 1501095235, 1732585912, 308618362, 2056915673, 2589746650, 2487596131, 1337617594, 282371526, 4179051383, 41264365, 1179402288, 3192786837, 1352255718, 1041691967]
def wX3 : List Nat := [4061440207, 2401687294, 4279275169, 545217565, 2364680250, 76122204, 1158313651, 2468775193, 4199256154, 386232339, 3588514721, 2207992260, 1381658428, 2261941981, 3460835206, 2032477659, 2587195082, 2242037929, 3117164332, 2707024628, 3616772486, 2620330886, 1225645810, 1437870080, 1574865256, 1989824109, 2395335142, 3336365766, 2701535695, 1415451854, 373949812, 1437057038]
def wX4 : List Nat := [1527835605, 2020844116, 1707208212, 1705152873, 3150672517, 2175050154, 2358140449, 3256997761, 699009680, 1391027989, 1168762212, 244908567, 4172343075, 4200662418, 3368641047, 2984901665, 1058697120, 1981275850, 2065515996, 3829411005, 3982348172, 1825592368, 2766129302, 1955816886, 3434245029, 639080882, 3595915453, 3787756872, 4074895422, 322161233, 1313900963, 2374278565]
def wX5 : List Nat := [349580376, 2990269083, 2435833992, 770158577, 2758882988, 2508364997, 1515952455, 34863645, 2254330742, 860752578, 3304339455, 98784341, 1886416035, 1429727256, 792095400, 800659643, 290410384, 3627076901, 2625182407, 3605305461, 2288498433, 4092300241, 1958512926, 3362604361, 1449210746, 466267968, 3790516499, 4024573582, 3347135357, 2532131937, 1664221714, 1734399019]
def wX6 : List Nat := [2322302378, 2079271628, 1850090127, 1947766945, 3438958050, 2093551564, 3261278328, 3160423048, 309139459, 1408315216, 2752210521, 3904291245, 842907474, 2780366124, 3863770478, 3252429840, 3159719851, 899706936, 975866025, 1215387461, 2708474319, 3470238743, 1930835358, 79728572, 1804969993, 2000844788, 1940985028, 2025269201, 146275803, 4242012753, 488838046, 673241695]
def wX7 : List Nat := [3634403687, 357481628, 467193073, 3689381927, 3833185621, 682661216, 743057954, 2464763972, 1202757028, 526837670, 3401388336, 2723489259, 1705524658, 3722438146, 47188593, 2674749065, 3428942041, 1083641422, 1340575826, 1918382583, 4012924037, 2835397661, 47594284, 2732148895, 944159287, 596241819, 2419348644, 3915902226, 3195327383, 506635418, 2675026272, 1101912085]
theorem wK_eq : (List.range 24).map (w0N 107) = wK := by decide +kernel
theorem wX0_eq : (List.range' 0 32).map (w0N 120) = wX0 := by decide +kernel
theorem wX1_eq : (List.range' 32 32).map (w0N 120) = wX1 := by decide +kernel
theorem wX2_eq : (List.range' 64 32).map (w0N 120) = wX2 := by decide +kernel
theorem wX3_eq : (List.range' 96 32).map (w0N 120) = wX3 := by decide +kernel
theorem wX4_eq : (List.range' 128 32).map (w0N 120) = wX4 := by decide +kernel
theorem wX5_eq : (List.range' 160 32).map (w0N 120) = wX5 := by decide +kernel
theorem wX6_eq : (List.range' 192 32).map (w0N 120) = wX6 := by decide +kernel
theorem wX7_eq : (List.range' 224 32).map (w0N 120) = wX7 := by decide +kernel
def wAll : List Nat := wK ++ (wX0 ++ wX1 ++ wX2 ++ wX3 ++ wX4 ++ wX5 ++ wX6 ++ wX7)
theorem range256 : List.range 256 = List.range' 0 32 ++ List.range' 32 32 ++ List.range' 64 32 ++ List.range' 96 32 ++ List.range' 128 32 ++ List.range' 160 32 ++ List.range' 192 32 ++ List.range' 224 32 := by decide +kernel
theorem wX_eq : (List.range 256).map (w0N 120) = wX0 ++ wX1 ++ wX2 ++ wX3 ++ wX4 ++ wX5 ++ wX6 ++ wX7 := by
  rw [range256]
  simp only [List.map_append, wX0_eq, wX1_eq, wX2_eq, wX3_eq, wX4_eq, wX5_eq, wX6_eq, wX7_eq]
theorem wAll_nodup : wAll.Nodup := by decide +kernel
theorem wAll_eq : (List.range 24).map (w0N 107) ++ (List.range 256).map (w0N 120) = wAll := by rw [wK_eq, wX_eq]; rfl

def key2 (a b : UInt8) : ByteArray := ⟨#[a, b]⟩
theorem sumK_two (a b : UInt8) : sumK (key2 a b) = sha [a, b] := rfl
theorem sum_first {a b c d : UInt8} (h : sumK (key2 a b) = sumK (key2 c d)) : w0N a.toNat b.toNat = w0N c.toNat d.toNat := by
  rw [sumK_two, sumK_two] at h
  have h1 : shaB [a, b] = shaB [c, d] := by
    have := congrArg (fun x : ByteArray => x.data.toList) h
    simpa [sha] using this
  unfold shaB at h1
  have h2 := congrArg (List.take 4) h1
  have e : ∀ H : Nat → W32, (outB H 8).take 4 = be4 (H 0) := fun H => rfl
  rw [e, e] at h2
  rw [← w0_two, ← w0_two, be4_inj h2]
/-- The keys that occur. -/
def IsKey (k : ByteArray) : Prop := (∃ i : Nat, i < 24 ∧ k = key2 107 (UInt8.ofNat i)) ∨ (∃ i : Nat, i < 256 ∧ k = key2 120 (UInt8.ofNat i))
theorem wAll_at (j : Nat) (h : j < 280) : wAll[j]? = some (if j < 24 then w0N 107 j else w0N 120 (j - 24)) := by
  rw [← wAll_eq]
  by_cases hj : j < 24
  · rw [if_pos hj, List.getElem?_append_left (by simpa using hj)]
    simp [hj]
  · rw [if_neg hj, List.getElem?_append_right (by simp; omega), List.length_map, List.length_range, List.getElem?_map, List.getElem?_range (by omega)]
    rfl
theorem nat_u8 {i : Nat} (h : i < 256) : (UInt8.ofNat i).toNat = i := by rw [UInt8.toNat_ofNat']; omega
theorem sums_apart {k k' : ByteArray} (h : IsKey k) (h' : IsKey k') (hs : sumK k = sumK k') : k = k' := by
  have hlen : wAll.length = 280 := by decide +kernel
  have idx : ∀ k, IsKey k → ∃ j, j < 280 ∧ k = (if j < 24 then key2 107 (UInt8.ofNat j) else key2 120 (UInt8.ofNat (j - 24))) := by
    rintro k (⟨i, hi, rfl⟩ | ⟨i, hi, rfl⟩)
    · exact ⟨i, by omega, by rw [if_pos hi]⟩
    · exact ⟨i + 24, by omega, by rw [if_neg (by omega), Nat.add_sub_cancel]⟩
  obtain ⟨i, hi, rfl⟩ := idx k h
  obtain ⟨j, hj, rfl⟩ := idx k' h'
  suffices i = j by subst this; rfl
  have ei := wAll_at i hi
  have ej := wAll_at j hj
  have heq : (if i < 24 then w0N 107 i else w0N 120 (i - 24)) = (if j < 24 then w0N 107 j else w0N 120 (j - 24)) := by
    by_cases a : i < 24 <;> by_cases b : j < 24
    all_goals
      simp only [a, b, if_true, if_false, ↓reduceIte] at hs ⊢
      have := sum_first hs
      rw [nat_u8 (by omega), nat_u8 (by omega)] at this
      exact this
  rw [heq, ← ej] at ei
  have hil : i < wAll.length := by omega
  have hjl : j < wAll.length := by omega
  rw [List.getElem?_eq_getElem hil, List.getElem?_eq_getElem hjl] at ei
  exact (List.getElem_inj wAll_nodup).1 (Option.some.inj ei)
theorem byte_bits {x y : UInt8} (h : ∀ s, s < 8 → x.toNat / 2 ^ (7 - s) % 2 = y.toNat / 2 ^ (7 - s) % 2) : x = y := by
  have h0 := h 0 (by decide)
  have h1 := h 1 (by decide)
  have h2 := h 2 (by decide)
  have h3 := h 3 (by decide)
  have h4 := h 4 (by decide)
  have h5 := h 5 (by decide)
  have h6 := h 6 (by decide)
  have h7 := h 7 (by decide)
  simp only [Nat.reduceSub, Nat.reducePow, Nat.sub_zero, Nat.pow_zero, Nat.pow_one, Nat.div_one] at h0 h1 h2 h3 h4 h5 h6 h7
  have hx := x.toNat_lt
  have hy := y.toNat_lt
  apply UInt8.toNat_inj.1
  omega
theorem bits_apart {a b : ByteArray} (ha : a.size = 32) (hb : b.size = 32) (h : ∀ i, i < 256 → bitB a i = bitB b i) : a = b := by
  have hl : a.data.toList = b.data.toList := by
    apply List.ext_getElem
    · simp; exact ha.trans hb.symm
    · intro j h1 h2
      have hj : j < 32 := by simpa [ha] using h1
      apply byte_bits
      intro s hs
      have := h (8 * j + s) (by omega)
      have hn : bitN a (8 * j + s) = bitN b (8 * j + s) := by rw [bitN_eq, bitN_eq, this]
      unfold bitN at hn
      rw [show (8 * j + s) / 8 = j by omega, show (8 * j + s) % 8 = s by omega, List.getElem?_eq_getElem h1, List.getElem?_eq_getElem h2] at hn
      exact hn
  cases a; cases b
  simp at hl
  rw [hl]
theorem keys_apart {k k' : ByteArray} (h : IsKey k) (h' : IsKey k') (hne : k ≠ k') : ∃ i, i < 256 ∧ hbit k i ≠ hbit k' i := by
  apply Classical.byContradiction
  intro hn
  apply hne
  apply sums_apart h h'
  apply bits_apart (sha_size _) (sha_size _)
  intro i hi
  apply Classical.byContradiction
  intro hb
  exact hn ⟨i, hi, hb⟩
theorem same_key {k k' : ByteArray} (h : IsKey k) (h' : IsKey k') : sameK k k' = decide (k = k') := by
  unfold sameK
  rw [Bool.eq_iff_iff, decide_eq_true_eq, decide_eq_true_eq]
  exact ⟨sums_apart h h', fun e => by rw [e]⟩
end Go.Proofs.YtlgmodeibmdcgaaDoor
