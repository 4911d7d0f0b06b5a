/- The store of messages. -/
import Derived.Test.YtgcelfplgfloaaaA4
import Derived.Test.YtgcelfplgfloaaaMaps
namespace Go.Proofs.Ytgcelfplgfloaaa
open Go Go.VC
set_option linter.unusedVariables false
set_option linter.unusedSimpArgs false
set_option maxRecDepth 100000

set_option maxHeartbeats 1000000
/-- resend.copied: a message with a Know of its own. -/
theorem fn40 (m : MsgV) (A : Option Addr) (n c : Nat) (w : World) (h : Ints w A n m.know) (hn : n * 8 ≤ 140737488355328) :
    Ret Try.prog 40 #[.agg (m.cells A n c).toArray] w fun v w' => ∃ A' c', v = .agg (m.cells A' n c').toArray ∧ Ext w w' ∧ Ints w' A' n m.know ∧ ∀ a, A' = some a → w.heap.size ≤ a.block := by
  refine Ret.of_vc tab_ok Try.func40 rfl Try.ntmps40 rfl (Nat.le_of_ble_eq_true rfl) Try.call40 ?_
  conv => whnf
  intro W1 hW1
  conv => whnf
  intro W2 hW2
  have hb1 := hW2.e.at_ hW1.at_
  have hb2 := hW2.at_
  have hE := hW1.e.tr hW2.e
  have hne : W1.heap.size ≠ w.heap.size := by have := hW1.size; omega
  have hle : w.heap.size ≤ W1.heap.size := hW1.e.le
  have hl1 : w.heap.size < W2.heap.size := at_lt hb1
  have hl2 : W1.heap.size < W2.heap.size := at_lt hb2
  have h0 : w.heap.size ≤ w.heap.size := Nat.le_refl _
  generalize hx1 : w.heap.size = b1 at hb1 hne hle hl1 h0
  generalize hx2 : W1.heap.size = b2 at hb2 hne hle hl2
  conv => whnf
  refine ⟨_, ld hb1 rfl rfl, ?_⟩
  conv => whnf
  refine (fn61 _ A n c m.know (h.ext hE) hn).mono ?_
  rintro _ W3 ⟨A', c', rfl, he3, hown, _⟩
  replace hb1 := he3.at_ hb1
  replace hb2 := he3.at_ hb2
  have hge := own_ge hown
  have hi3 : Ints W3 A' n m.know := own_ints hown
  clear hown
  conv => whnf
  refine ⟨b1, 2, _, _, rfl, hb1, Nat.le_of_ble_eq_true rfl, rfl, rfl, fun W4 hW4 => ?_⟩
  have hb2' := hW4.keep hb2 hne
  have hb1' := hW4.at_
  have hE4 : Ext w W4 := hW4.e (hE.tr he3) (by rw [hx1]; exact h0)
  have hi4 : Ints W4 A' n m.know := hi3.put hW4 (fun a e => by have := hge a e; omega)
  conv => whnf
  refine ⟨m.cells A' n c', rfl, lds hb1' rfl rfl, ?_⟩
  conv => whnf
  refine ⟨b2, 0, _, _, rfl, hb2', Nat.le_of_ble_eq_true rfl, rfl, rfl, fun W5 hW5 => ?_⟩
  have hb2'' := hW5.at_
  conv => whnf
  refine ⟨m.cells A' n c', rfl, lds hb2'' rfl rfl, ?_⟩
  conv => whnf
  exact ⟨A', c', rfl, hW5.e hE4 (by rw [hx1]; exact hle), hi4.put hW5 (fun a e => by have := hge a e; omega), fun a e => by have := hge a e; have := hE.le; omega⟩
end Go.Proofs.Ytgcelfplgfloaaa
