/- The program's Keys. -/
import Derived.Test.YtlgmodeibmdcgaaDoorSort9
set_option linter.unusedVariables false
set_option linter.unusedSimpArgs false
namespace Go.Proofs.YtlgmodeibmdcgaaDoor
open Go.RowKit

set_option maxHeartbeats 2000000 in
set_option maxRecDepth 100000 in
theorem keys_ok {B : Nat} {w : World} {v : Value} {t : Tr} {ks : List ByteArray} (h : NodeAt B w v t) (hp : t.keys.Perm ks) (hr : Rising ks) (hl : t.len ≤ 1000000) (hkl : t.keys.length ≤ 1000000) :
    Calls Tryd.prog 29 #[v] w fun e w' => ∃ A c, e = .returned (.slice A ks.length c) ∧ Rd Ty.str w' (fun i => w.heap.size ≤ i) A ks ∧ Fr No w w' := by
  have hmf : ∀ (fn : Fn) (first cap : Array Value) (w : World), (Instr.makeFunc fn first cap).run Tryd.prog w = .ok (.func fn first cap) w := fun _ _ _ _ => rfl
  have hlen := hp.length_eq
  obtain ⟨W, hW⟩ : ∃ W, W = w.alloc (.cells #[.slice none 0 0] 57) := ⟨_, rfl⟩
  have hfW : Fr (fun i => w.heap.size ≤ i) w W := by rw [hW]; exact (Fr.refl _ w).alloc _
  have hbW : BoxS w.heap.size w.heap.size W [] := ⟨none, 0, by rw [hW]; exact heap_alloc_new w _, Ow.nil⟩
  have heach := each_ok (Nat.le_refl w.heap.size) (Nat.le_refl w.heap.size) h hfW hbW (by simp; omega)
  rw [List.nil_append, hW] at heach
  have H := Lib.hid (And.intro heach (And.intro (hW ▸ hfW) (And.intro hp (And.intro hr (And.intro hkl hlen)))))
  clear heach hfW hbW hW h hp hr hl hkl hlen
  obtain ⟨K, hK⟩ : ∃ K, t.keys = K := ⟨_, rfl⟩
  rw [hK] at H
  obtain ⟨n, hn⟩ : ∃ n, ks.length = n := ⟨_, rfl⟩
  rw [hn] at H ⊢
  have HN := Lib.hid hn
  clear hK hn
  go_enter Tryd.func29, Tryd.ntmps29
  go_wp2_with fail
  refine H.out.1.mono ?_
  rintro e w1 ⟨rfl, ⟨A, c, hb, hO⟩, hf1⟩
  have c0 := blk_cell hb 0
  simp at c0
  have hs := sort_ok hO H.out.2.2.1 H.out.2.2.2.1 H.out.2.2.2.2.1
  rw [H.out.2.2.2.2.2] at hs c0
  have HS := Lib.hid (And.intro hs (H.out.2.1.next hf1 (fun i _ e => e)))
  clear hs hb hO hf1
  go_wp2_with fail
  refine HS.out.1.mono ?_
  rintro e w2 ⟨rfl, hrd, hf2⟩
  have c0 := hf2.cell c0 (fun e => e.2 rfl)
  have HR := Lib.hid (And.intro (hrd.mono (G := fun i => w.heap.size ≤ i) fun i hi _ => hi.1) (HS.out.2.next hf2 (fun i _ e => e.1)))
  clear hrd hf2
  go_wp2_with fail
  go_ret
  exact ⟨A, c, rfl, HR.out.1, fr_old HR.out.2⟩
end Go.Proofs.YtlgmodeibmdcgaaDoor
