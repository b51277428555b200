/- The day of an era's year lies in that year (plain arithmetic). -/
import Derived.Test.YtilcfpaimhiofaaGreatDoorBase
namespace Go.Proofs.YtilcfpaimhiofaaGreatDoor

theorem era_parts (of : Int) (h0 : 0 ≤ of) (h1 : of ≤ 146096) : ∃ c q s r : Int, of = 36524 * c + 1461 * q + 365 * s + r ∧ 0 ≤ c ∧ c ≤ 3 ∧ 0 ≤ q ∧ q ≤ 24 ∧ 0 ≤ s ∧ s ≤ 3 ∧ 0 ≤ r ∧ r ≤ 365 ∧ (s ≤ 2 → r ≤ 364) ∧ (q = 24 → s = 3 → c ≤ 2 → r ≤ 364) := by
  obtain ⟨c, hc⟩ : ∃ c, (if of / 36524 = 4 then 3 else of / 36524) = c := ⟨_, rfl⟩
  have c0 : 0 ≤ c ∧ c ≤ 3 := by split at hc <;> omega
  obtain ⟨a, ha⟩ : ∃ a, of - 36524 * c = a := ⟨_, rfl⟩
  have a0 : 0 ≤ a ∧ a ≤ 36524 ∧ (c ≤ 2 → a ≤ 36523) := by split at hc <;> omega
  obtain ⟨q, hq⟩ : ∃ q, a / 1461 = q := ⟨_, rfl⟩
  obtain ⟨b, hb⟩ : ∃ b, a - 1461 * q = b := ⟨_, rfl⟩
  have b0 : 0 ≤ b ∧ b ≤ 1460 := by omega
  obtain ⟨s, hs⟩ : ∃ s, (if b / 365 = 4 then 3 else b / 365) = s := ⟨_, rfl⟩
  refine ⟨c, q, s, b - 365 * s, by omega, c0.1, c0.2, by omega, by omega, ?_, ?_, ?_, ?_, ?_, ?_⟩ <;> split at hs <;> omega

theorem era_year (of : Int) (h0 : 0 ≤ of) (h1 : of ≤ 146096) (y : Int) (hy : (of - of / 1460 + of / 36524 - of / 146096) / 365 = y) : 0 ≤ of - (365 * y + y / 4 - y / 100) ∧ of - (365 * y + y / 4 - y / 100) ≤ 365 := by
  obtain ⟨c, q, s, r, e, c0, c1, q0, q1, s0, s1, r0, r1, r2, r3⟩ := era_parts of h0 h1
  by_cases hl : of = 146096
  · subst hl
    have : y = 399 := by omega
    subst this
    omega
  · have x3 : of / 146096 = 0 := by omega
    have x2 : of / 36524 = c := by omega
    have x1 : of / 1460 = 25 * c + q ∨ of / 1460 = 25 * c + q + 1 := by omega
    have x1' : of / 1460 = 25 * c + q + 1 → 24 * c + q + 365 * s + r ≥ 1460 := by omega
    have hyv : y = 100 * c + 4 * q + s := by omega
    have y4 : y / 4 = 25 * c + q := by omega
    have y100 : y / 100 = c := by omega
    omega
end Go.Proofs.YtilcfpaimhiofaaGreatDoor
