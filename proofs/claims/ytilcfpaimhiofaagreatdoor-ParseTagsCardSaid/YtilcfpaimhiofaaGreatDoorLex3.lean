/- lex.counted: what it computes. -/
import Derived.Test.YtilcfpaimhiofaaGreatDoorLex1
import Derived.Test.YtilcfpaimhiofaaGreatDoorLex2
namespace Go.Proofs.YtilcfpaimhiofaaGreatDoor
open Go.RowKit

/-- counted: a literal -/
def countedF (l : List UInt8) : Option (List UInt8 × List UInt8) :=
  let c := Lib.cut l [13, 10]
  let n := literalF c.1
  if c.2.2 = false ∨ n < 0 ∨ (c.2.1.length : Int) < n ∨ Lib.lastIndexByte ⟨c.1.toArray⟩ 123 ≠ 0 then none else some (c.2.1.take n.toNat, c.2.1.drop n.toNat)

theorem cut_le (l p : List UInt8) : (Lib.cut l p).1.length ≤ l.length ∧ (Lib.cut l p).2.1.length ≤ l.length := by
  unfold Lib.cut; split
  · simp; omega
  · simp

set_option maxRecDepth 100000 in
theorem counted_any (s : ByteArray) (w : World) (hG : Glob w) (hl : s.size ≤ 4294967280) :
    Calls Tryz.prog 42 #[.string s] w fun e w' => e = quotedV (countedF s.data.toList) ∧ Below w.heap.size w w' := by
  have hC := cut_any s ⟨#[13, 10]⟩ w hG (by omega)
  have hle := cut_le s.data.toList [13, 10]
  rw [size_toList] at hle
  obtain ⟨p, hp, Hp⟩ : ∃ p : ByteArray, (⟨(Lib.cut s.data.toList [13, 10]).1.toArray⟩ : ByteArray) = p ∧ Hid ((Lib.cut s.data.toList [13, 10]).1 = p.data.toList) := ⟨_, rfl, Lib.hid (by simp)⟩
  obtain ⟨r, hr, Hr⟩ : ∃ r : ByteArray, (⟨(Lib.cut s.data.toList [13, 10]).2.1.toArray⟩ : ByteArray) = r ∧ Hid ((Lib.cut s.data.toList [13, 10]).2.1 = r.data.toList) := ⟨_, rfl, Lib.hid (by simp)⟩
  obtain ⟨b, Hb⟩ : ∃ b, Hid ((Lib.cut s.data.toList [13, 10]).2.2 = b) := ⟨_, Lib.hid rfl⟩
  have hps : p.size ≤ s.size := by rw [← hp, size_mk]; exact hle.1
  have hrs : r.size ≤ s.size := by rw [← hr, size_mk]; exact hle.2
  simp only [hp, hr, Hb.out] at hC
  clear hp hr hle
  obtain ⟨n, Hn⟩ : ∃ n, Hid (literalF p.data.toList = n) := ⟨_, Lib.hid rfl⟩
  have hI := Tryz.strings_LastIndexByte p 123 (by omega)
  obtain ⟨i, Hi⟩ : ∃ i, Hid (Lib.lastIndexByte p 123 = i) := ⟨_, Lib.hid rfl⟩
  simp only [Hi.out] at hI
  have fin : countedF s.data.toList = if b = false ∨ n < 0 ∨ (r.size : Int) < n ∨ i ≠ 0 then none else some (r.data.toList.take n.toNat, r.data.toList.drop n.toNat) := by
    have e : (⟨p.data.toList.toArray⟩ : ByteArray) = p := by simp
    rw [countedF, Hp.out, Hr.out, Hb.out, Hn.out, e, Hi.out, size_toList]
  have Hf := Lib.hid fin; clear fin
  have HI := Lib.hid hI; clear hI
  go_enter Tryz.func42, Tryz.ntmps42
  go_wp2_with fail
  refine hC.mono ?_; rintro e w1 ⟨rfl, hb1⟩
  clear hC
  have hcv := Lib.run_convert_string_bytes (P := Tryz.prog) w1 9 33 5 p Tryz.underlying9 Tryz.underlying33 Tryz.underlying5
  go_wp2_with fail
  refine (literal_any _ p.data.toList _ ((hG.below hb1).below (bytesWorld_below w1 5 p)) (bytesWorld_at (by unfold maxLen; omega)) (by rw [size_toList]; omega)).mono ?_
  rintro e w2 ⟨rfl, hb2⟩
  have hb : Below w.heap.size w w2 := hb1.trans (((bytesWorld_below w1 5 p).trans (hb2.mono (by rw [Lib.bytesWorld_size]; omega))).mono hb1.size)
  clear hb1 hb2 hcv
  rw [Hn.out]
  cases b with
  | false =>
    go_wp2
    go_ret3
    exact ⟨by rw [Hf.out, if_pos (by simp)]; rfl, hb⟩
  | true =>
    by_cases hn : n < 0
    · go_wp2
      go_ret3
      exact ⟨by rw [Hf.out, if_pos (.inr (.inl hn))]; rfl, hb⟩
    · by_cases hnr : (r.size : Int) < n
      · go_wp2
        go_ret3
        exact ⟨by rw [Hf.out, if_pos (.inr (.inr (.inl hnr)))]; rfl, hb⟩
      · obtain ⟨m, rfl⟩ : ∃ m : Nat, n = m := ⟨n.toNat, by omega⟩
        by_cases hi : i = 0
        · have t0 : (i != 0) = false := by simp [hi]
          have Hi0 := Lib.hid hi; clear hi
          obtain ⟨x1, hx1, Hx1⟩ := ext_to r m
          obtain ⟨x2, hx2, Hx2⟩ := ext_from r m
          go_wp2_with fail
          refine (HI.out _).mono ?_; rintro e w3 ⟨rfl, rfl⟩
          go_wp2_with fail
          go_quiet (fail)
          go_wp2
          go_ret3
          exact ⟨by rw [Hf.out, if_neg (by rw [Hi0.out]; simp; omega), Int.toNat_natCast, Hx1.out, Hx2.out]; rfl, below_drewN hb _⟩
        · have t0 : (i != 0) = true := by simp [hi]
          go_wp2_with fail
          refine (HI.out _).mono ?_; rintro e w3 ⟨rfl, rfl⟩
          go_wp2
          go_ret3
          exact ⟨by rw [Hf.out, if_pos (.inr (.inr (.inr hi)))]; rfl, hb⟩
end Go.Proofs.YtilcfpaimhiofaaGreatDoor
