/- parse's reader: arguments ends. -/
import Derived.Test.YtilcfpaimhiofaaGreatDoorP10
namespace Go.Proofs.YtilcfpaimhiofaaGreatDoor
open Go.RowKit

set_option maxHeartbeats 4000000 in
set_option maxRecDepth 100000 in
theorem arguments_s {R C : Nat} {nm : ByteArray} {w : World} (h0 : Both R C nm w w) (hRC : R < C) (hG : Glob w) (hR : 9 ≤ R) :
    Calls Tryz.prog 21 #[.pointer (some ⟨R, 0, none⟩), .pointer (some ⟨C, 0, none⟩)] w fun e w' => e = .returned (.tuple #[]) ∧ (∃ nm', Both R C nm' w w') ∧ (nm = ⟨#[78, 79, 79, 80]⟩ → w' = w) := by
  have hnm := h0.cmd.name
  have hRC' : ¬ R = C := by omega
  have hCR' : ¬ C = R := by omega
  go_enter Tryz.func21, Tryz.ntmps21
  cases q0 : (nm.toList == [67, 65, 80, 65, 66, 73, 76, 73, 84, 89]) with
  | true =>
    go_wp2
    go_end0
    exact ⟨rfl, ⟨nm, h0⟩, fun _ => rfl⟩
  | false =>
    cases q1 : (nm.toList == [78, 79, 79, 80]) with
    | true =>
      go_wp2
      go_end0
      exact ⟨rfl, ⟨nm, h0⟩, fun _ => rfl⟩
    | false =>
      have Q1 := Lib.hid q1
      cases q2 : (nm.toList == [76, 79, 71, 79, 85, 84]) with
      | true =>
        go_wp2
        go_end0
        exact ⟨rfl, ⟨nm, h0⟩, fun _ => rfl⟩
      | false =>
        cases q3 : (nm.toList == [67, 72, 69, 67, 75]) with
        | true =>
          go_wp2
          go_end0
          exact ⟨rfl, ⟨nm, h0⟩, fun _ => rfl⟩
        | false =>
          cases q4 : (nm.toList == [67, 76, 79, 83, 69]) with
          | true =>
            go_wp2
            go_end0
            exact ⟨rfl, ⟨nm, h0⟩, fun _ => rfl⟩
          | false =>
            cases q5 : (nm.toList == [69, 88, 80, 85, 78, 71, 69]) with
            | true =>
              go_wp2
              go_end0
              exact ⟨rfl, ⟨nm, h0⟩, fun _ => rfl⟩
            | false =>
              cases q6 : (nm.toList == [73, 68, 76, 69]) with
              | true =>
                go_wp2
                go_end0
                exact ⟨rfl, ⟨nm, h0⟩, fun _ => rfl⟩
              | false =>
                cases q7 : (nm.toList == [76, 79, 71, 73, 78]) with
                | true =>
                  go_wp2_with fail
                  refine (word_s h0.reads).mono ?_; rintro e w1 ⟨s1, rfl, hs1, hr1, ht1⟩
                  have h1 := h0.call hRC hr1 ht1
                  go_wp2_with fail
                  refine (word_s h1.reads).mono ?_; rintro e w2 ⟨s2, rfl, hs2, hr2, ht2⟩
                  have h2 := h1.call hRC hr2 ht2
                  obtain ⟨x3, hx3⟩ := h2.cmd.cell 3 (by omega)
                  obtain ⟨x4, hx4⟩ := h2.cmd.cell 4 (by omega)
                  have hf3 := h2.cmd.frozen 3
                  have hf4 := h2.cmd.frozen 4
                  go_wp2
                  go_end0
                  exact ⟨rfl, ⟨nm, (h2.store hRC 3 (by omega) _).store hRC 4 (by omega) _⟩, fun h => absurd Q1.out (by rw [h, ByteArray.toList_eq]; decide)⟩
                | false =>
                  cases q8 : (nm.toList == [83, 69, 76, 69, 67, 84]) with
                  | true =>
                    go_wp2_with fail
                    refine (box_s h0.reads hG hR).mono ?_; rintro e w1 ⟨s1, rfl, hr1, ht1⟩
                    have h1 := h0.call hRC hr1 ht1
                    obtain ⟨x5, hx5⟩ := h1.cmd.cell 5 (by omega)
                    have hf5 := h1.cmd.frozen 5
                    go_wp2
                    go_end0
                    exact ⟨rfl, ⟨nm, h1.store hRC 5 (by omega) _⟩, fun h => absurd Q1.out (by rw [h, ByteArray.toList_eq]; decide)⟩
                  | false =>
                    cases q9 : (nm.toList == [69, 88, 65, 77, 73, 78, 69]) with
                    | true =>
                      go_wp2_with fail
                      refine (box_s h0.reads hG hR).mono ?_; rintro e w1 ⟨s1, rfl, hr1, ht1⟩
                      have h1 := h0.call hRC hr1 ht1
                      obtain ⟨x5, hx5⟩ := h1.cmd.cell 5 (by omega)
                      have hf5 := h1.cmd.frozen 5
                      go_wp2
                      go_end0
                      exact ⟨rfl, ⟨nm, h1.store hRC 5 (by omega) _⟩, fun h => absurd Q1.out (by rw [h, ByteArray.toList_eq]; decide)⟩
                    | false =>
                      cases q10 : (nm.toList == [67, 82, 69, 65, 84, 69]) with
                      | true =>
                        go_wp2_with fail
                        refine (box_s h0.reads hG hR).mono ?_; rintro e w1 ⟨s1, rfl, hr1, ht1⟩
                        have h1 := h0.call hRC hr1 ht1
                        obtain ⟨x5, hx5⟩ := h1.cmd.cell 5 (by omega)
                        have hf5 := h1.cmd.frozen 5
                        go_wp2
                        go_end0
                        exact ⟨rfl, ⟨nm, h1.store hRC 5 (by omega) _⟩, fun h => absurd Q1.out (by rw [h, ByteArray.toList_eq]; decide)⟩
                      | false =>
                        cases q11 : (nm.toList == [83, 84, 65, 84, 85, 83]) with
                        | true =>
                          go_wp2_with fail
                          refine (box_s h0.reads hG hR).mono ?_; rintro e w1 ⟨s1, rfl, hr1, ht1⟩
                          have h1 := h0.call hRC hr1 ht1
                          obtain ⟨x5, hx5⟩ := h1.cmd.cell 5 (by omega)
                          have hf5 := h1.cmd.frozen 5
                          go_wp2
                          go_end0
                          exact ⟨rfl, ⟨nm, h1.store hRC 5 (by omega) _⟩, fun h => absurd Q1.out (by rw [h, ByteArray.toList_eq]; decide)⟩
                        | false =>
                          cases q12 : (nm.toList == [76, 73, 83, 84]) with
                          | true =>
                            go_wp2_with fail
                            refine (word_s h0.reads).mono ?_; rintro e w1 ⟨s1, rfl, hs1, hr1, ht1⟩
                            have h1 := h0.call hRC hr1 ht1
                            go_wp2_with fail
                            refine (word_s h1.reads).mono ?_; rintro e w2 ⟨s2, rfl, hs2, hr2, ht2⟩
                            have h2 := h1.call hRC hr2 ht2
                            obtain ⟨x6, hx6⟩ := h2.cmd.cell 6 (by omega)
                            obtain ⟨x7, hx7⟩ := h2.cmd.cell 7 (by omega)
                            have hf6 := h2.cmd.frozen 6
                            have hf7 := h2.cmd.frozen 7
                            obtain ⟨ra, rn, rc, bad, hn, hc0, hc1, hf0, hf1⟩ := h2.reads.cells
                            cases bad with
                            | true =>
                              go_wp2
                              go_end0
                              exact ⟨rfl, ⟨nm, ((h2.store hRC 6 (by omega) _).store hRC 7 (by omega) _).bad hRC _⟩, fun h => absurd Q1.out (by rw [h, ByteArray.toList_eq]; decide)⟩
                            | false =>
                              go_wp2
                              go_end0
                              exact ⟨rfl, ⟨nm, ((h2.store hRC 6 (by omega) _).store hRC 7 (by omega) _).bad hRC _⟩, fun h => absurd Q1.out (by rw [h, ByteArray.toList_eq]; decide)⟩
                          | false =>
                            cases q13 : (nm.toList == [65, 80, 80, 69, 78, 68]) with
                            | true =>
                              go_wp2_with fail
                              refine (message_s h0 hRC hG hR).mono ?_; rintro e w1 ⟨rfl, h1⟩
                              go_wp2
                              go_end0
                              exact ⟨rfl, ⟨nm, h1⟩, fun h => absurd Q1.out (by rw [h, ByteArray.toList_eq]; decide)⟩
                            | false =>
                              cases q14 : (nm.toList == [85, 73, 68]) with
                              | true =>
                                go_wp2_with fail
                                refine (take_s h0.reads 1).mono ?_; rintro e w1 ⟨s1, rfl, hs1, hr1, ht1⟩
                                have h1 := h0.call hRC hr1 ht1
                                go_wp2_with fail
                                refine (great_any s1 w1 (by omega)).mono ?_; rintro e w2 ⟨rfl, hb2⟩
                                have h2 := h1.below hb2
                                clear h1 hb2 hr1 ht1 hnm
                                generalize (⟨(s1.data.toList.map upB).toArray⟩ : ByteArray) = g
                                obtain ⟨x2, hx2⟩ := h2.cmd.cell 2 (by omega)
                                obtain ⟨x1, hx1⟩ := h2.cmd.cell 1 (by omega)
                                have hf2 := h2.cmd.frozen 2
                                have hf1 := h2.cmd.frozen 1
                                have h3 := (h2.store hRC 2 (by omega) (.bool true)).rename hRC g
                                have h3' : Both R C g ((w2.setCell ⟨C, 2, none⟩ (.bool true)).setCell ⟨C, 1, none⟩ (.string g)) ((w2.setCell ⟨C, 2, none⟩ (.bool true)).setCell ⟨C, 1, none⟩ (.string g)) := ⟨h3.reads, h3.cmd, Touch.refl _ _⟩
                                have hG3 := h3.glob hG hR hRC
                                cases cE : (g.toList == [69, 88, 80, 85, 78, 71, 69]) with
                                | true =>
                                  go_wp2_with fail
                                  refine (set_s h3.reads hG3 hR).mono ?_; rintro e w4 ⟨va, vn, vc, rfl, hr4, ht4⟩
                                  have h4 := h3.call hRC hr4 ht4
                                  obtain ⟨x14, hx14⟩ := h4.cmd.cell 14 (by omega)
                                  have hf14 := h4.cmd.frozen 14
                                  go_wp2
                                  go_end0
                                  exact ⟨rfl, ⟨g, h4.store hRC 14 (by omega) _⟩, fun h => absurd Q1.out (by rw [h, ByteArray.toList_eq]; decide)⟩
                                | false =>
                                  go_wp2_with fail
                                  refine (numbered_s h3' hRC hG3 hR).mono ?_; rintro e w4 ⟨b, rfl, h4⟩
                                  have h5 := h3.trans h4
                                  obtain ⟨ra, rn, rc, bad, hn, hc0, hc1, hf0, hf1'⟩ := h5.reads.cells
                                  cases b with
                                  | true =>
                                    go_wp2
                                    go_end0
                                    exact ⟨rfl, ⟨g, h5⟩, fun h => absurd Q1.out (by rw [h, ByteArray.toList_eq]; decide)⟩
                                  | false =>
                                    go_wp2
                                    go_end0
                                    exact ⟨rfl, ⟨g, h5.bad hRC _⟩, fun h => absurd Q1.out (by rw [h, ByteArray.toList_eq]; decide)⟩
                              | false =>
                                go_wp2_with fail
                                refine (numbered_s h0 hRC hG hR).mono ?_; rintro e w4 ⟨b, rfl, h5⟩
                                obtain ⟨ra, rn, rc, bad, hn, hc0, hc1, hf0, hf1'⟩ := h5.reads.cells
                                cases b with
                                | true =>
                                  go_wp2
                                  go_end0
                                  exact ⟨rfl, ⟨nm, h5⟩, fun h => absurd Q1.out (by rw [h, ByteArray.toList_eq]; decide)⟩
                                | false =>
                                  go_wp2
                                  go_end0
                                  exact ⟨rfl, ⟨nm, h5.bad hRC _⟩, fun h => absurd Q1.out (by rw [h, ByteArray.toList_eq]; decide)⟩

end Go.Proofs.YtilcfpaimhiofaaGreatDoor
