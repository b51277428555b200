/- date.civil, date.since: what they compute. -/
import Derived.Test.YtilcfpaimhiofaaGreatDoorWrap
import Derived.Test.YtilcfpaimhiofaaGreatDoorDate0
namespace Go.Proofs.YtilcfpaimhiofaaGreatDoor
open Go.RowKit

def civOf (days : Int) : Int := days + 719468 - (days + 719468) / 146097 * 146097
def civYear (of : Int) : Int := (of - of / 1460 + of / 36524 - of / 146096) / 365
def civDay (of : Int) : Int := of - (365 * civYear of + civYear of / 4 - civYear of / 100)
def civM (of : Int) : Int := (5 * civDay of + 2) / 153
def civD (of : Int) : Int := civDay of - (153 * civM of + 2) / 5 + 1
def civilF (days : Int) : Int × Int × Int :=
  if civM (civOf days) < 10 then (civYear (civOf days) + (days + 719468) / 146097 * 400, civM (civOf days) + 3, civD (civOf days))
  else (civYear (civOf days) + (days + 719468) / 146097 * 400 + 1, civM (civOf days) - 9, civD (civOf days))

set_option maxHeartbeats 1000000 in
set_option maxRecDepth 100000 in
theorem civil_any (days : Int) (w : World) (h0 : -1 ≤ days) (h1 : days ≤ 3000000) :
    Calls Tryz.prog 76 #[.int .i64 days] w fun e w' => e = .returned (.tuple #[.int .i64 (civilF days).1, .int .i64 (civilF days).2.1, .int .i64 (civilF days).2.2]) ∧ w = w' := by
  obtain ⟨era, e1⟩ : ∃ era, (days + 719468) / 146097 = era := ⟨_, rfl⟩
  have b1 : 0 ≤ era ∧ era ≤ 40 := by omega
  obtain ⟨of, e2⟩ : ∃ of, days + 719468 - era * 146097 = of := ⟨_, rfl⟩
  have b2 : 0 ≤ of ∧ of ≤ 146096 := by omega
  obtain ⟨b2a, b2b⟩ := b2
  obtain ⟨b1a, b1b⟩ := b1
  obtain ⟨y, e3⟩ : ∃ y, (of - of / 1460 + of / 36524 - of / 146096) / 365 = y := ⟨_, rfl⟩
  have b3a : 0 ≤ y := by omega
  have b3b : y ≤ 399 := by omega
  obtain ⟨day, e4⟩ : ∃ day, of - (365 * y + y / 4 - y / 100) = day := ⟨_, rfl⟩
  have b4a : 0 ≤ day := by rw [← e4]; exact (era_year of b2a b2b y e3).1
  have b4b : day ≤ 365 := by rw [← e4]; exact (era_year of b2a b2b y e3).2
  obtain ⟨m, e5⟩ : ∃ m, (5 * day + 2) / 153 = m := ⟨_, rfl⟩
  have b5a : 0 ≤ m := by omega
  have b5b : m ≤ 12 := by omega
  have fin : civilF days = if m < 10 then (y + era * 400, m + 3, day - (153 * m + 2) / 5 + 1) else (y + era * 400 + 1, m - 9, day - (153 * m + 2) / 5 + 1) := by
    have c1 : civOf days = of := by rw [civOf, e1, e2]
    have c2 : civYear of = y := by rw [civYear, e3]
    have c3 : civDay of = day := by rw [civDay, c2, e4]
    have c4 : civM of = m := by rw [civM, c3, e5]
    have c5 : civD of = day - (153 * m + 2) / 5 + 1 := by rw [civD, c3, c4]
    rw [civilF, c1, c2, c4, c5, e1]
  have Hf := Lib.hid fin; clear fin
  by_cases hm : m < 10
  · have Hf2 := Lib.hid (Hf.out.trans (if_pos hm)); clear Hf
    go_enter Tryz.func76, Tryz.ntmps76
    go_wp2
    go_ret3
    exact ⟨by rw [Hf2.out]; rfl, rfl⟩
  · have Hf2 := Lib.hid (Hf.out.trans (if_neg hm)); clear Hf
    go_enter Tryz.func76, Tryz.ntmps76
    go_wp2
    go_ret3
    exact ⟨by rw [Hf2.out]; rfl, rfl⟩

def sinceDay (m d : Int) : Int := (153 * (m - 3) + 2) / 5 + d - 1
def sinceY (y m d : Int) : Int := y / 400 * 146097 + (y - y / 400 * 400) * 365 + (y - y / 400 * 400) / 4 - (y - y / 400 * 400) / 100 + sinceDay m d - 719468
/-- since, of a year that may be one below zero: as Go divides -/
def sinceF (y m d : Int) : Int := if m ≤ 2 then (if y = 0 then (0 * 146097 + -1 * 365 + 0 - 0 + sinceDay (m + 12) d - 719468) else sinceY (y - 1) (m + 12) d) else sinceY y m d

set_option maxHeartbeats 1000000 in
set_option maxRecDepth 100000 in
theorem since_any (y m d : Int) (w : World) (hy0 : 0 ≤ y) (hy1 : y ≤ 9999) (hm0 : 1 ≤ m) (hm1 : m ≤ 12) (hd0 : 0 ≤ d) (hd1 : d ≤ 99) :
    Calls Tryz.prog 75 #[.int .i64 y, .int .i64 m, .int .i64 d] w fun e w' => e = .returned (.int .i64 (sinceF y m d)) ∧ w = w' := by
  by_cases hm : m ≤ 2
  · by_cases hy : y = 0
    · subst hy
      have Hf := Lib.hid (show sinceF 0 m d = 0 * 146097 + -1 * 365 + 0 - 0 + sinceDay (m + 12) d - 719468 by rw [sinceF, if_pos hm, if_pos rfl])
      go_enter Tryz.func75, Tryz.ntmps75
      go_wp2
      go_ret
      exact ⟨ret_int (by rw [Hf.out]; simp [sinceDay]), rfl⟩
    · have Hf := Lib.hid (show sinceF y m d = sinceY (y - 1) (m + 12) d by rw [sinceF, if_pos hm, if_neg hy])
      obtain ⟨z, hz⟩ : ∃ z, y - 1 = z := ⟨_, rfl⟩
      rw [hz] at Hf
      obtain ⟨era, e1⟩ : ∃ era, z / 400 = era := ⟨_, rfl⟩
      have b1a : 0 ≤ era := by omega
      have b1b : era ≤ 25 := by omega
      obtain ⟨of, e2⟩ : ∃ of, z - era * 400 = of := ⟨_, rfl⟩
      have b2a : 0 ≤ of := by omega
      have b2b : of ≤ 399 := by omega
      have z0 : 0 ≤ z := by omega
      have z1 : z ≤ 9998 := by omega
      have He := Lib.hid (And.intro e1 e2)
      go_enter Tryz.func75, Tryz.ntmps75
      go_wp2
      go_ret
      exact ⟨ret_int (by rw [Hf.out, sinceY, He.out.1, He.out.2]; rfl), rfl⟩
  · have Hf := Lib.hid (show sinceF y m d = sinceY y m d by rw [sinceF, if_neg hm])
    obtain ⟨era, e1⟩ : ∃ era, y / 400 = era := ⟨_, rfl⟩
    have b1a : 0 ≤ era := by omega
    have b1b : era ≤ 25 := by omega
    obtain ⟨of, e2⟩ : ∃ of, y - era * 400 = of := ⟨_, rfl⟩
    have b2a : 0 ≤ of := by omega
    have b2b : of ≤ 399 := by omega
    have He := Lib.hid (And.intro e1 e2)
    go_enter Tryz.func75, Tryz.ntmps75
    go_wp2
    go_ret
    exact ⟨ret_int (by rw [Hf.out, sinceY, He.out.1, He.out.2]; rfl), rfl⟩
end Go.Proofs.YtilcfpaimhiofaaGreatDoor
