/- Layer 6 (record): a batch of writes by numbers: plain functions. -/
import Derived.Test.YtkcppngopdiljaaSpec06
import Derived.Test.YtkcppngopdiljaaSpec13b
set_option linter.unusedVariables false
set_option linter.unusedSimpArgs false
namespace Go.Proofs.Ytkcppngopdiljaa

/-- A write by numbers. -/
structure Actn where
  key : UInt8
  row : UInt8
  gone : Bool
def tAct : Ty Actn := Ty.iso (Ty.pair Ty.u8 (Ty.pair Ty.u8 Ty.bool)) fun x => (x.key, x.row, x.gone)
def kq (q : UInt8) : ByteArray := ⟨#[107, q]⟩
def actKey (a : Actn) : ByteArray := kq (a.key % 12)
/-- What the acts say of a key so far: the last one counts. -/
def accW (k : ByteArray) (l : List Actn) : Wr := l.foldl (fun w a => if actKey a = k then ⟨k, [a.row], a.gone⟩ else w) ⟨k, [], false⟩
def finW (x : Wr) : Wr := if x.gone = true then ⟨x.key, [], true⟩ else x
def batchW (l : List Actn) : List Wr := (rise (l.map actKey)).map fun k => finW (accW k l)

theorem accW_snoc (k : ByteArray) (l : List Actn) (a : Actn) : accW k (l ++ [a]) = if actKey a = k then ⟨k, [a.row], a.gone⟩ else accW k l := by
  unfold accW; rw [List.foldl_append]; rfl
theorem accW_key (k : ByteArray) (l : List Actn) : (accW k l).key = k ∧ (accW k l).row.length ≤ 1 := by
  unfold accW
  have : ∀ (w : Wr), w.key = k → w.row.length ≤ 1 → (l.foldl (fun w a => if actKey a = k then ⟨k, [a.row], a.gone⟩ else w) w).key = k ∧ (l.foldl (fun w a => if actKey a = k then ⟨k, [a.row], a.gone⟩ else w) w).row.length ≤ 1 := by
    induction l with
    | nil => exact fun w h1 h2 => ⟨h1, h2⟩
    | cons a l ih =>
      intro w h1 h2
      rw [List.foldl_cons]
      split
      · exact ih _ rfl (Nat.le_refl _)
      · exact ih _ h1 h2
  exact this _ rfl (Nat.zero_le _)
theorem finW_key (x : Wr) : (finW x).key = x.key := by unfold finW; split <;> rfl
theorem finW_row (x : Wr) (h : x.row.length ≤ 1) : (finW x).row.length ≤ 1 ∧ ((finW x).gone = true → (finW x).row.length = 0) := by
  unfold finW
  split
  · exact ⟨Nat.zero_le _, fun _ => rfl⟩
  · rename_i hg
    exact ⟨h, fun e => absurd e hg⟩
theorem batchW_keys (l : List Actn) : (batchW l).map Wr.key = rise (l.map actKey) := by
  unfold batchW
  rw [List.map_map]
  have : ∀ k ∈ rise (l.map actKey), (Wr.key ∘ fun k => finW (accW k l)) k = k := fun k _ => by
    show (finW _).key = k
    rw [finW_key]; exact (accW_key k l).1
  rw [List.map_congr_left this, List.map_id']
theorem batchW_len (l : List Actn) : (batchW l).length ≤ l.length := by
  have := rise_length (l.map actKey)
  unfold batchW
  rw [List.length_map]; simpa using this
theorem batchW_mem {l : List Actn} {x : Wr} (h : x ∈ batchW l) : x.key.size = 2 ∧ x.row.length ≤ 1 ∧ (x.gone = true → x.row.length = 0) := by
  have hk : x.key ∈ rise (l.map actKey) := by rw [← batchW_keys]; exact List.mem_map_of_mem h
  rw [mem_rise, List.mem_map] at hk
  obtain ⟨a, _, ha⟩ := hk
  unfold batchW at h
  obtain ⟨k, _, rfl⟩ := List.mem_map.1 h
  have := finW_row _ (accW_key k l).2
  exact ⟨by rw [← ha]; rfl, this.1, this.2⟩
theorem allFit_of {last : ByteArray} {l : List Wr} (hm : ∀ x ∈ l, x.key.size = 2 ∧ x.row.length ≤ 1 ∧ (x.gone = true → x.row.length = 0)) (hr : Rising (l.map Wr.key)) (hl : ∀ x ∈ l, kl last x.key = true) : allFit last l = true := by
  induction l generalizing last with
  | nil => rfl
  | cons x l ih =>
    obtain ⟨h1, h2, h3⟩ := hm x (List.mem_cons_self ..)
    rw [List.map_cons] at hr
    obtain ⟨h4, h5⟩ := List.pairwise_cons.1 hr
    have h6 : fits x last = true := by
      unfold fits
      rw [hl x (List.mem_cons_self ..), h1]
      cases hg : x.gone with
      | false => simp; omega
      | true => have := h3 hg; simp [this]
    simp only [allFit, h6, Bool.true_and]
    exact ih (fun y hy => hm y (List.mem_cons_of_mem _ hy)) h5 (fun y hy => h4 _ (List.mem_map_of_mem hy))
theorem kl_nil2 {k : ByteArray} (h : k.size = 2) : kl ⟨#[]⟩ k = true := by
  rw [kl_eq]
  refine decide_eq_true ?_
  rw [toList_data, toList_data]
  have : k.data.toList ≠ [] := fun e => by
    have : k.data.size = 2 := h
    rw [← Array.length_toList, e] at this
    cases this
  cases hk : k.data.toList with
  | nil => exact absurd hk this
  | cons a l => exact List.nil_lt_cons a l
theorem batchW_fit (l : List Actn) : allFit ⟨#[]⟩ (batchW l) = true :=
  allFit_of (fun x hx => batchW_mem hx) (by rw [batchW_keys]; exact rising_rise _) (fun x hx => kl_nil2 (batchW_mem hx).1)
theorem batchW_pos {l : List Actn} (h : l ≠ []) : 1 ≤ (batchW l).length := by
  cases l with
  | nil => exact absurd rfl h
  | cons a l =>
    have : actKey a ∈ (batchW (a :: l)).map Wr.key := by rw [batchW_keys, mem_rise]; simp
    have := List.length_pos_of_mem this
    rwa [List.length_map] at this
theorem batchW_right {n : Int} {l : List Actn} (hn : 1 ≤ n) (h : l ≠ []) (hl : l.length ≤ 64) : right n (batchW l) = true := by
  unfold right
  have h1 := batchW_pos h
  have h2 := batchW_len l
  rw [batchW_fit, decide_eq_true hn, decide_eq_true h1, decide_eq_true (show (batchW l).length ≤ 64 by omega)]
  rfl

theorem Sto.Small.mono {s : Sto} {m m' : Nat} (h : s.Small m) (k : m ≤ m') : s.Small m' :=
  ⟨h.now0, by have := h.now1; omega, by have := h.keys; omega, h.ksz, fun p hp => by have := h.chains p hp; exact ⟨by omega, this.2⟩⟩
theorem Chn.empty_ok : Chn.Ok Chn.empty := ⟨List.Pairwise.nil, fun v hv => by cases hv⟩
end Go.Proofs.Ytkcppngopdiljaa
