/- cubbylaw16.tagged: what it computes. -/
import Derived.Test.YtilcfpaimhiofaaGreatDoorP6
namespace Go.Proofs.YtilcfpaimhiofaaGreatDoor
open Go.RowKit

set_option maxHeartbeats 1000000 in
set_option maxRecDepth 100000 in
theorem ltagged_any (s : ByteArray) (w : World) (hl : s.size ≤ 4294967280) :
    Calls Tryz.prog 11 #[.string s] w fun e w' => e = .returned (.bool (taggedL s.data.toList)) ∧ w' = w := by
  go_enter Tryz.func11, Tryz.ntmps11
  go_wp2
  go_loop [7] (fun i => ∃ k : Nat, k ≤ s.size ∧ i = .int .i64 k ∧ (s.data.toList.take k).all tagB = true) (fun i => s.size - (intOf i).toNat)
  case atStart => exact ⟨0, Nat.zero_le _, rfl, rfl⟩
  case round =>
    obtain ⟨k, hk, rfl, hall⟩ := hrel
    have HA := Lib.hid hall; clear hall
    by_cases hlt : k < s.size
    · cases hB : tagB s[k] with
      | true =>
        have Hs := Lib.hid (all_snoc hlt HA.out hB)
        rcases tagB_yes hB with ⟨h1, h2⟩ | ⟨h1, h2⟩ | ⟨h1, h2⟩
        all_goals (
          clear hB
          go_wp2
          go_round
          case rel => exact ⟨k + 1, by omega, by go_num, Hs.out⟩
          case measure => simp [intOf]; omega)
      | false =>
        have Hn := Lib.hid (show taggedL s.data.toList = false by rw [taggedL, all_not hlt hB]; rfl)
        obtain ⟨h1 | h1, h2 | h2, h3 | h3⟩ := tagB_no hB
        all_goals (
          clear hB
          try omega
          try (
            go_wp2
            all_goals first
              | (go_ret; exact ⟨by rw [Hn.out]; rfl, rfl⟩)
              | (exfalso; rename_i hq; simp at hq; omega)))
    · have He := Lib.hid (taggedL_eq s (all_whole hlt HA.out))
      by_cases c1 : 1 ≤ s.size
      · by_cases c2 : s.size ≤ 20
        · have Hz := Lib.hid (show taggedL s.data.toList = true by rw [He.out]; simp [c1, c2])
          go_wp2
          go_ret
          exact ⟨ret_bool (by rw [Hz.out]; simp; omega), rfl⟩
        · have Hz := Lib.hid (show taggedL s.data.toList = false by rw [He.out]; simp [c2])
          go_wp2
          go_ret
          exact ⟨ret_bool (by rw [Hz.out]; simp; omega), rfl⟩
      · have Hz := Lib.hid (show taggedL s.data.toList = false by rw [He.out]; simp [c1])
        go_wp2
        go_ret
        exact ⟨by rw [Hz.out]; rfl, rfl⟩
end Go.Proofs.YtilcfpaimhiofaaGreatDoor
