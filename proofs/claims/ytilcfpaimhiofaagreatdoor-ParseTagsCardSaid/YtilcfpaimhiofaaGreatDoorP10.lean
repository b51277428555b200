/- parse's reader: numbered ends. -/
import Derived.Test.YtilcfpaimhiofaaGreatDoorP9
namespace Go.Proofs.YtilcfpaimhiofaaGreatDoor
open Go.RowKit

set_option maxHeartbeats 2000000 in
set_option maxRecDepth 100000 in
theorem numbered_s {R C : Nat} {nm : ByteArray} {w : World} (h0 : Both R C nm w w) (hRC : R < C) (hG : Glob w) (hR : 9 ≤ R) :
    Calls Tryz.prog 33 #[.pointer (some ⟨R, 0, none⟩), .pointer (some ⟨C, 0, none⟩)] w fun e w' => ∃ b, e = .returned (.bool b) ∧ Both R C nm w w' := by
  have hnm := h0.cmd.name
  go_enter Tryz.func33, Tryz.ntmps33
  cases c1 : (nm.toList == [70, 69, 84, 67, 72]) with
  | true =>
    go_wp2_with fail
    refine (set_s h0.reads hG hR).mono ?_; rintro e w1 ⟨va, vn, vc, rfl, hr1, ht1⟩
    have h1 := h0.call hRC hr1 ht1
    obtain ⟨x14, hx14⟩ := h1.cmd.cell 14 (by omega)
    have hf14 := h1.cmd.frozen 14
    have h2 := h1.store hRC 14 (by omega) (.slice va vn vc)
    clear h1 hr1 ht1
    go_wp2_with fail
    refine (items_s h2.reads).mono ?_; rintro e w2 ⟨wa, wn, wc, rfl, hr2, ht2⟩
    have h3 := h2.call hRC hr2 ht2
    obtain ⟨x15, hx15⟩ := h3.cmd.cell 15 (by omega)
    have hf15 := h3.cmd.frozen 15
    clear hx14 hf14 h2 hr2 ht2
    go_wp2
    go_ret
    exact ⟨_, rfl, h3.store hRC 15 (by omega) _⟩
  | false =>
    cases c2 : (nm.toList == [83, 84, 79, 82, 69]) with
    | true =>
      go_wp2_with fail
      refine (store_s h0 hRC hG hR).mono ?_; rintro e w1 ⟨rfl, h1⟩
      go_wp2
      go_ret
      exact ⟨_, rfl, h1⟩
    | false =>
      cases c3 : (nm.toList == [67, 79, 80, 89]) with
      | true =>
        go_wp2_with fail
        refine (set_s h0.reads hG hR).mono ?_; rintro e w1 ⟨va, vn, vc, rfl, hr1, ht1⟩
        have h1 := h0.call hRC hr1 ht1
        obtain ⟨x14, hx14⟩ := h1.cmd.cell 14 (by omega)
        have hf14 := h1.cmd.frozen 14
        have h2 := h1.store hRC 14 (by omega) (.slice va vn vc)
        clear h1 hr1 ht1
        go_wp2_with fail
        refine (box_s h2.reads (h2.glob hG hR hRC) hR).mono ?_; rintro e w2 ⟨s, rfl, hr2, ht2⟩
        have h3 := h2.call hRC hr2 ht2
        obtain ⟨x5, hx5⟩ := h3.cmd.cell 5 (by omega)
        have hf5 := h3.cmd.frozen 5
        clear hx14 hf14 h2 hr2 ht2
        go_wp2
        go_ret
        exact ⟨_, rfl, h3.store hRC 5 (by omega) _⟩
      | false =>
        cases c4 : (nm.toList == [83, 69, 65, 82, 67, 72]) with
        | true =>
          go_wp2_with fail
          refine (keys_s h0.reads).mono ?_; rintro e w1 ⟨va, vn, vc, rfl, hr1, ht1⟩
          have h1 := h0.call hRC hr1 ht1
          obtain ⟨x16, hx16⟩ := h1.cmd.cell 16 (by omega)
          have hf16 := h1.cmd.frozen 16
          go_wp2
          go_ret
          exact ⟨_, rfl, h1.store hRC 16 (by omega) _⟩
        | false =>
          go_wp2
          go_ret
          exact ⟨_, rfl, h0⟩
end Go.Proofs.YtilcfpaimhiofaaGreatDoor
