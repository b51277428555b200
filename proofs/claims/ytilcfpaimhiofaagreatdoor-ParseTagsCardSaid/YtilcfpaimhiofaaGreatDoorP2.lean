/- parse's reader: box and set end. -/
import Derived.Test.YtilcfpaimhiofaaGreatDoorP1
import Derived.Test.YtilcfpaimhiofaaGreatDoorName
import Derived.Test.YtilcfpaimhiofaaGreatDoorSeq2
namespace Go.Proofs.YtilcfpaimhiofaaGreatDoor
open Go.RowKit

set_option maxHeartbeats 1000000 in
set_option maxRecDepth 100000 in
theorem box_s {R : Nat} {w : World} (hr : Reads w R) (hG : Glob w) (hR : 9 ≤ R) :
    Calls Tryz.prog 30 #[.pointer (some ⟨R, 0, none⟩)] w fun e w' => ∃ s, e = .returned (.string s) ∧ Reads w' R ∧ Touch [R] w w' := by
  go_enter Tryz.func30, Tryz.ntmps30
  go_wp2_with fail
  refine (word_s hr).mono ?_; rintro e w1 ⟨s, rfl, hs, hr1, ht1⟩
  have hG1 := hG.touch ht1 (by simp; omega)
  go_wp2_with fail
  refine (norm_any s w1 hG1 (by omega)).mono ?_; rintro e w2 ⟨rfl, hb⟩
  have hr2 := hr1.below hb
  have ht2 := ht1.below hb
  obtain ⟨a, n, c, bad, hn, hc0, hc1, hf0, hf1⟩ := hr2.cells
  cases normF s with
  | none =>
    unfold normV
    cases bad with
    | true =>
      go_wp2
      go_ret
      exact ⟨_, rfl, hr2.bad _, ht2.setCell (.inl (by simp)) _⟩
    | false =>
      go_wp2
      go_ret
      exact ⟨_, rfl, hr2.bad _, ht2.setCell (.inl (by simp)) _⟩
  | some x =>
    unfold normV
    cases bad with
    | true =>
      go_wp2
      go_ret
      exact ⟨_, rfl, hr2.bad _, ht2.setCell (.inl (by simp)) _⟩
    | false =>
      go_wp2
      go_ret
      exact ⟨_, rfl, hr2.bad _, ht2.setCell (.inl (by simp)) _⟩
end Go.Proofs.YtilcfpaimhiofaaGreatDoor
