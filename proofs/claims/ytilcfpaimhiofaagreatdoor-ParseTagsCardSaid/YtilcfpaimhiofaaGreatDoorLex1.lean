/- lex.plain and lex.literal: what they compute. -/
import Derived.Test.YtilcfpaimhiofaaGreatDoorWrap
namespace Go.Proofs.YtilcfpaimhiofaaGreatDoor
open Go.RowKit

/-- plain: a byte of an atom -/
def isPlain (c : UInt8) : Bool := (decide (33 ≤ c.toNat) && decide (c.toNat ≤ 126)) && decide (Lib.indexByte [40, 41, 123, 34] c < 0)

theorem plain_any (c : UInt8) (w : World) :
    Calls Tryz.prog 43 #[.int .u8 (c.toNat : Int)] w fun e w' => e = .returned (.bool (isPlain c)) ∧ w = w' := by
  have hI := Tryz.strings_IndexByte ⟨#[40, 41, 123, 34]⟩ (c.toNat : Int) w
  rw [u8_back] at hI
  by_cases h1 : 33 ≤ (c.toNat : Int)
  · by_cases h2 : (c.toNat : Int) ≤ 126
    · go_enter Tryz.func43, Tryz.ntmps43
      go_wp2_with (go_at_call 65; refine hI.mono ?_; rintro e w' ⟨rfl, rfl⟩)
      go_ret
      exact ⟨ret_bool (by simp [isPlain, show 33 ≤ c.toNat by omega, show c.toNat ≤ 126 by omega]), rfl⟩
    · go_enter Tryz.func43, Tryz.ntmps43
      go_wp2
      go_ret
      exact ⟨ret_bool (by simp [isPlain, show ¬ c.toNat ≤ 126 by omega]), rfl⟩
  · go_enter Tryz.func43, Tryz.ntmps43
    go_wp2
    go_ret
    exact ⟨ret_bool (by simp [isPlain, show ¬ 33 ≤ c.toNat by omega]), rfl⟩

/-- literal: the length that a line's end asks for -/
def literalF (l : List UInt8) : Int :=
  let t := Lib.trimSuffix l [125]
  let i := Lib.lastIndexByte ⟨t.toArray⟩ 123
  if Lib.hasSuffix l [125] = false ∨ i < 0 then -1
  else
    let d := t.drop (i + 1).toNat
    if d.length < 1 ∨ 6 < d.length ∨ Lib.trimS d digitsL ≠ [] then -1 else atoiV d

theorem trimSuffix_le (l p : List UInt8) : (Lib.trimSuffix l p).length ≤ l.length := by
  unfold Lib.trimSuffix; split
  · rw [List.length_take]; omega
  · exact Nat.le_refl _
theorem lastIndexByte_bd (s : ByteArray) (c : Int) : -1 ≤ Lib.lastIndexByte s c ∧ Lib.lastIndexByte s c < s.size := by
  rcases Lib.lastIndexByte_spec s c with ⟨e, _⟩ | ⟨i, hi, e, _⟩ <;> rw [e] <;> omega

theorem lit_no {d : List UInt8} (h1 : ¬ d.length < 1) (h6 : ¬ 6 < d.length) : ¬ (d.length < 1 ∨ 6 < d.length ∨ ([] : List UInt8) ≠ []) := by
  rintro (h | h | h)
  · exact h1 h
  · exact h6 h
  · exact h rfl
set_option maxRecDepth 100000 in
theorem literal_any (v : Value) (l : List UInt8) (w : World) (hG : Glob w) (hv : BytesAt w v l) (hl : l.length ≤ 4294967280) :
    Calls Tryz.prog 63 #[v] w fun e w' => e = .returned (.int .i64 (literalF l)) ∧ Below w.heap.size w w' := by
  have hcv := conv_bytes hv
  have hC := Tryz.strings_CutSuffix ⟨l.toArray⟩ ⟨#[125]⟩ w (by rw [size_mk]; omega)
  obtain ⟨t, Ht⟩ : ∃ t, Hid (Lib.trimSuffix l [125] = t) := ⟨_, Lib.hid rfl⟩
  obtain ⟨h, Hh⟩ : ∃ h, Hid (Lib.hasSuffix l [125] = h) := ⟨_, Lib.hid rfl⟩
  have htl : t.length ≤ l.length := by rw [← Ht.out]; exact trimSuffix_le _ _
  simp only [Ht.out, Hh.out] at hC
  have hL := Tryz.strings_LastIndexByte ⟨t.toArray⟩ 123 (by rw [size_mk]; omega) w
  obtain ⟨i, Hi⟩ : ∃ i, Hid (Lib.lastIndexByte ⟨t.toArray⟩ 123 = i) := ⟨_, Lib.hid rfl⟩
  have hib : -1 ≤ i ∧ i < t.length := by rw [← Hi.out, ← size_mk]; exact lastIndexByte_bd _ _
  simp only [Hi.out] at hL
  go_enter Tryz.func63, Tryz.ntmps63
  go_wp2_with (go_at_call 81; refine hC.mono ?_; rintro e w' ⟨rfl, rfl⟩)
  refine hL.mono ?_; rintro e w' ⟨rfl, rfl⟩
  cases h with
  | false =>
    go_wp2
    go_ret
    exact ⟨ret_int (by simp [literalF, Hh.out]), Below.refl _ _⟩
  | true =>
    by_cases hi : i < 0
    · go_wp2
      go_ret
      exact ⟨ret_int (by simp [literalF, Ht.out, Hi.out, hi]), Below.refl _ _⟩
    · obtain ⟨d, Hd⟩ : ∃ d, Hid (t.drop (i + 1).toNat = d) := ⟨_, Lib.hid rfl⟩
      have hx : (⟨t.toArray⟩ : ByteArray).extract (i + 1).toNat t.length = ⟨d.toArray⟩ := by rw [extract_from, Hd.out]
      have hdl : d.length ≤ t.length := by rw [← Hd.out, List.length_drop]; omega
      have hT := trim_digits ⟨d.toArray⟩ w' (by rw [size_mk]; omega)
      obtain ⟨r, Hr⟩ : ∃ r, Hid (Lib.trimS d digitsL = r) := ⟨_, Lib.hid rfl⟩
      simp only [Hr.out] at hT
      have fin : literalF l = if d.length < 1 ∨ 6 < d.length ∨ r ≠ [] then -1 else atoiV d := by
        simp [literalF, Ht.out, Hh.out, Hi.out, Hd.out, Hr.out, hi]
      have Hf := Lib.hid fin; clear fin
      by_cases hd1 : d.length < 1
      · go_wp2
        go_ret
        exact ⟨ret_int (by rw [Hf.out, if_pos (.inl hd1)]), Below.refl _ _⟩
      · by_cases hd6 : 6 < d.length
        · go_wp2
          go_ret
          exact ⟨ret_int (by rw [Hf.out, if_pos (.inr (.inl hd6))]), Below.refl _ _⟩
        · go_wp2_with fail
          refine hT.mono ?_; rintro e w1 ⟨rfl, hb1⟩
          cases r with
          | cons a b =>
            go_wp2
            go_ret
            exact ⟨ret_int (by rw [Hf.out, if_pos (.inr (.inr (by simp)))]), hb1⟩
          | nil =>
            have hA := atoi_any ⟨d.toArray⟩ w1 (hG.below hb1) (by rw [size_mk]; omega)
            go_wp2_with fail
            refine hA.mono ?_; rintro e w2 ⟨ev, rfl, _, hb2⟩
            go_wp2
            go_ret
            exact ⟨ret_int (by rw [Hf.out, if_neg (lit_no hd1 hd6)]), hb1.trans (hb2.mono hb1.size)⟩
end Go.Proofs.YtilcfpaimhiofaaGreatDoor
