/- Texts of this claim, one behind the other: DelP. -/
import Derived.Test.YtlmhphejgahfbaaGreatDoorMrowledgerdeletes37
import Derived.Test.YtlmhphejgahfbaaGreatDoorMrowledgerdeletesKGetL
/- Layer 15: a row that is put and deleted: what comes of it, in plain words. -/
set_option linter.unusedVariables false
set_option linter.unusedSimpArgs false
namespace Go.Proofs.YtlmhphejgahfbaaGreatDoor

section
variable (T : List Tab) (key : ByteArray) (row : Bs)
/-- The store with the row alone; and with it gone. -/
def stoA : Sto := ⟨[(key, ⟨[⟨1, row, false⟩], 1⟩)], 1⟩
def stoB : Sto := ⟨[(key, ⟨[⟨1, row, false⟩, ⟨2, [], true⟩], 2⟩)], 2⟩
theorem look_one {β : Type} (v : β) : look key [(key, v)] = some v := by unfold look; rw [if_pos rfl]
theorem stoA_get : (stoA key row).get 1 key = some row := by
  show ((look key [(key, (⟨[⟨1, row, false⟩], 1⟩ : Chn))]).getD Chn.empty).get 1 = _
  rw [look_one]; rfl
theorem stoA_last : (stoA key row).last key = 1 := by
  show ((look key [(key, (⟨[⟨1, row, false⟩], 1⟩ : Chn))]).getD Chn.empty).last = _
  rw [look_one]; rfl
theorem stoB_get1 : (stoB key row).get 1 key = some row := by
  show ((look key [(key, (⟨[⟨1, row, false⟩, ⟨2, [], true⟩], 2⟩ : Chn))]).getD Chn.empty).get 1 = _
  rw [look_one]; rfl
theorem stoB_get2 : (stoB key row).get 2 key = none := by
  show ((look key [(key, (⟨[⟨1, row, false⟩, ⟨2, [], true⟩], 2⟩ : Chn))]).getD Chn.empty).get 2 = _
  rw [look_one]; rfl
theorem del_put : Sto.put1 2 (stoA key row).kc ⟨key, [], true⟩ = (stoB key row).kc := by
  show slay key (((look key [(key, (⟨[⟨1, row, false⟩], 1⟩ : Chn))]).getD Chn.empty).put 2 [] true) [(key, (⟨[⟨1, row, false⟩], 1⟩ : Chn))] = _
  rw [look_one]
  unfold slay
  rw [if_neg (by rw [kl_irrefl]; decide), if_pos rfl]
  rfl
theorem del3 : ∃ sts, (((Led.new T).begin_).setTx 1 [⟨key, row, false⟩]).publish [⟨key, row, false⟩] [1] = ⟨T, stoA key row, [], 1, sts⟩ := ⟨_, rfl⟩
theorem del4 (sts : List Stt) : ((⟨T, stoA key row, [], 1, sts⟩ : Led).begin_.begin_).setTx 2 [⟨key, [], true⟩] = ⟨T, stoA key row, [⟨2, 1, [⟨key, [], true⟩]⟩, ⟨3, 1, []⟩], 3, sts⟩ := rfl
theorem del6 (sts : List Stt) : ∃ sts', (⟨T, stoA key row, [⟨2, 1, [⟨key, [], true⟩]⟩, ⟨3, 1, []⟩], 3, sts⟩ : Led).publish [⟨key, [], true⟩] [2] = ⟨T, stoB key row, [⟨3, 1, []⟩], 3, sts'⟩ := by
  have hp := del_put key row
  refine ⟨Led.keep6 (sts ++ [(⟨T, stoA key row, [⟨2, 1, [⟨key, [], true⟩]⟩, ⟨3, 1, []⟩], 3, sts⟩ : Led).grown [⟨key, [], true⟩]]), ?_⟩
  unfold Led.publish
  rw [if_neg (by simp)]
  have ha : (⟨T, stoA key row, [⟨2, 1, [⟨key, [], true⟩]⟩, ⟨3, 1, []⟩], 3, sts⟩ : Led).applied [⟨key, [], true⟩] = ⟨T, stoB key row, [⟨2, 1, [⟨key, [], true⟩]⟩, ⟨3, 1, []⟩], 3, Led.keep6 (sts ++ [(⟨T, stoA key row, [⟨2, 1, [⟨key, [], true⟩]⟩, ⟨3, 1, []⟩], 3, sts⟩ : Led).grown [⟨key, [], true⟩]])⟩ := by
    unfold Led.applied
    show (⟨T, ⟨[(⟨key, [], true⟩ : Wr)].foldl (Sto.put1 2) (stoA key row).kc, 2⟩, _, _, _⟩ : Led) = _
    rw [List.foldl_cons, List.foldl_nil, hp]
    rfl
  rw [ha]
  rfl
theorem del_late (sts : List Stt) : (⟨T, stoA key row, [⟨2, 1, [⟨key, [], true⟩]⟩, ⟨3, 1, []⟩], 3, sts⟩ : Led).formN [2] 1 = ([0], [⟨key, [], true⟩]) := by
  have hb : (⟨T, stoA key row, [⟨2, 1, [⟨key, [], true⟩]⟩, ⟨3, 1, []⟩], 3, sts⟩ : Led).bars ⟨2, 1, [⟨key, [], true⟩]⟩ ((⟨T, stoA key row, [⟨2, 1, [⟨key, [], true⟩]⟩, ⟨3, 1, []⟩], 3, sts⟩ : Led).formN [2] 0).2 = false := by
    unfold Led.bars
    simp only [List.any_cons, List.any_nil, Bool.or_false]
    rw [show (⟨T, stoA key row, [⟨2, 1, [⟨key, [], true⟩]⟩, ⟨3, 1, []⟩], 3, sts⟩ : Led).s.last key = 1 from stoA_last key row]
    rfl
  exact formN_ok (L := (⟨T, stoA key row, [⟨2, 1, [⟨key, [], true⟩]⟩, ⟨3, 1, []⟩], 3, sts⟩ : Led)) (ids := [2]) (k := 0) (Nat.lt_succ_self 0) (x := ⟨2, 1, [⟨key, [], true⟩]⟩) rfl (by simp) hb
theorem del_first : (((Led.new T).begin_).setTx 1 [⟨key, row, false⟩]).formN [1] 1 = ([0], [⟨key, row, false⟩]) :=
  formN_ok (L := ((Led.new T).begin_).setTx 1 [⟨key, row, false⟩]) (ids := [1]) (k := 0) (Nat.lt_succ_self 0) (x := ⟨1, 0, [⟨key, row, false⟩]⟩) rfl (by simp) rfl
theorem sees_empty {L : Led} {id b : Int} {k : ByteArray} : L.sees ⟨id, b, []⟩ k = L.s.get b k := rfl
theorem sees_gone {L : Led} {id b : Int} {k : ByteArray} : L.sees ⟨id, b, [⟨k, [], true⟩]⟩ k = none := by
  have h : wfind k [(⟨k, [], true⟩ : Wr)] = some ⟨k, [], true⟩ := by unfold wfind; simp
  unfold Led.sees
  show (match wfind k [(⟨k, [], true⟩ : Wr)] with | some y => if y.gone = true then none else some y.row | none => L.s.get b k) = none
  rw [h]; rfl
end
theorem fitAll_dec {v : Val} (h : v ∈ fitAll) : DecV v := by
  unfold fitAll at h
  rcases List.mem_cons.1 h with rfl | h
  · exact .inl rfl
  · rcases List.mem_append.1 h with h | h
    · obtain ⟨k, hk, rfl⟩ := List.mem_map.1 h
      have := List.mem_range.1 hk
      exact .inr (.inl ⟨_, rfl, by omega, by omega⟩)
    · obtain ⟨k, hk, rfl⟩ := List.mem_map.1 h
      exact .inr (.inr ⟨_, rfl, Nat.le_trans (textOf_size (k := k) (by have := List.mem_range.1 hk; omega)) (by decide)⟩)
end Go.Proofs.YtlmhphejgahfbaaGreatDoor
