/- lex.apart: what it computes. -/
import Derived.Test.YtilcfpaimhiofaaGreatDoorWrap
namespace Go.Proofs.YtilcfpaimhiofaaGreatDoor
open Go.RowKit

/-- apart: the blank between two tokens -/
def apartF (l : List UInt8) (kind : Int) : List UInt8 × Bool :=
  let b := Lib.hasPrefix l [32]
  match Lib.trimPrefix l [32] with
  | [] => ([], !b)
  | c :: r => (c :: r, if b then ((c != 32 && c != 41) && kind != 3) else (c == 41 || kind == 3))

theorem trimPrefix_le (l p : List UInt8) : (Lib.trimPrefix l p).length ≤ l.length := by
  unfold Lib.trimPrefix; split
  · rw [List.length_drop]; omega
  · exact Nat.le_refl _

set_option maxRecDepth 100000 in
theorem apart_any (s : ByteArray) (k : Int) (t : ByteArray) (w : World) :
    Calls Tryz.prog 27 #[.string s, .agg #[.int .i64 k, .string t]] w fun e w' => e = .returned (.tuple #[.string ⟨(apartF s.data.toList k).1.toArray⟩, .bool (apartF s.data.toList k).2]) ∧ Below w.heap.size w w' := by
  have hC := Tryz.strings_CutPrefix s ⟨#[32]⟩ (w.alloc (.cells #[.int .i64 k, .string t] 44))
  obtain ⟨r, hr, Hr⟩ : ∃ r : ByteArray, (⟨(Lib.trimPrefix s.data.toList [32]).toArray⟩ : ByteArray) = r ∧ Hid (Lib.trimPrefix s.data.toList [32] = r.data.toList) := ⟨_, rfl, Lib.hid (by simp)⟩
  obtain ⟨b, Hb⟩ : ∃ b, Hid (Lib.hasPrefix s.data.toList [32] = b) := ⟨_, Lib.hid rfl⟩
  have hrs : r.size ≤ s.size := by rw [← hr, size_mk, ← size_toList]; exact trimPrefix_le _ _
  simp only [hr, Hb.out] at hC
  clear hr
  have hk := cell_two_new w (.int .i64 k) (.string t) 44 0 (.int .i64 k) rfl
  have hbw : Below w.heap.size w (w.alloc (.cells #[.int .i64 k, .string t] 44)) := (Below.refl _ _).alloc (Nat.le_refl _) _
  go_enter Tryz.func27, Tryz.ntmps27
  go_wp2_with fail
  refine hC.mono ?_; rintro e w1 ⟨rfl, rfl⟩
  clear hC
  by_cases h0 : r.size = 0
  · have hre : r.data.toList = [] := List.eq_nil_of_length_eq_zero (by rw [size_toList]; exact h0)
    have hra : r = ⟨#[]⟩ := by
      apply ByteArray.ext; apply Array.toList_inj.1; rw [hre]
    have Hre := Lib.hid hre; clear hre h0
    subst hra
    go_wp2
    go_ret2
    exact ⟨by rw [apartF, Hr.out, Hb.out]; simp, hbw⟩
  · have h0' : 0 < r.size := by omega
    have hc : r.data.toList = r[0] :: r.data.toList.drop 1 := by have := drop_cons h0'; simpa using this
    have he := empty_no h0'
    have fin : apartF s.data.toList k = (r.data.toList, if b then ((r[0] != 32 && r[0] != 41) && k != 3) else (r[0] == 41 || k == 3)) := by
      rw [apartF, Hr.out, Hb.out, hc]
    have Hf := Lib.hid fin; clear fin hc
    cases b with
    | true =>
      by_cases h32 : r[0] = 32
      · have t32 := bneN 32 h32
        have H32 := Lib.hid h32; clear h32
        go_wp2_with fail
        go_quiet (fail)
        go_wp2
        go_ret2
        exact ⟨by rw [Hf.out, H32.out]; simp, below_drewN hbw _⟩
      · have t32 := bneY 32 h32
        by_cases h41 : r[0] = 41
        · have t41 := bneN 41 h41
          have H41 := Lib.hid h41; clear h41
          go_wp2_with fail
          go_quiet (fail)
          go_wp2
          go_ret2
          exact ⟨by rw [Hf.out, H41.out]; simp, below_drewN hbw _⟩
        · have t41 := bneY 41 h41
          have H41 := Lib.hid h41; clear h41
          have H32 := Lib.hid h32; clear h32
          go_wp2_with fail
          go_quiet (fail)
          go_wp2
          go_ret2
          exact ⟨by rw [Hf.out]; simp [bne, beq_eq_false_iff_ne.2 H32.out, beq_eq_false_iff_ne.2 H41.out], below_drewN hbw _⟩
    | false =>
      by_cases h41 : r[0] = 41
      · have t41 := beqY 41 h41
        have H41 := Lib.hid h41; clear h41
        go_wp2_with fail
        go_quiet (fail)
        go_wp2
        go_ret2
        exact ⟨by rw [Hf.out, H41.out]; simp, below_drewN hbw _⟩
      · have t41 := beqN 41 h41
        have H41 := Lib.hid h41; clear h41
        go_wp2_with fail
        go_quiet (fail)
        go_wp2
        go_ret2
        exact ⟨by rw [Hf.out]; simp [beq_eq_false_iff_ne.2 H41.out], below_drewN hbw _⟩
end Go.Proofs.YtilcfpaimhiofaaGreatDoor
