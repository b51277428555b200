/- seqset.number: what it computes. -/
import Derived.Test.YtilcfpaimhiofaaGreatDoorFmt
namespace Go.Proofs.YtilcfpaimhiofaaGreatDoor
open Go.RowKit

def puV (l : List UInt8) : Nat := match Lib.parseUintB 32 l with | .ok v => v | .range => 4294967295 | _ => 0
def puOk (l : List UInt8) : Bool := match Lib.parseUintB 32 l with | .ok _ => true | _ => false
theorem parseUintM_le (M : Nat) : ∀ (l : List UInt8) (acc v : Nat), acc ≤ M → Lib.parseUintM M acc l = .ok v → v ≤ M
  | [], acc, v, ha, h => by simp [Lib.parseUintM] at h; omega
  | c :: r, acc, v, ha, h => by
    unfold Lib.parseUintM at h
    split at h
    · split at h
      · cases h
      · split at h
        · cases h
        · rename_i h2; exact parseUintM_le M r _ v (by omega) h
    · cases h
theorem puV_lt (l : List UInt8) : puV l < 4294967296 := by
  unfold puV
  split
  · rename_i v h
    unfold Lib.parseUintB at h
    split at h
    · cases h
    · have := parseUintM_le _ _ 0 v (Nat.zero_le _) h; omega
  · omega
  · omega

theorem parseUint_any (s : ByteArray) (w : World) (hG : Glob w) (hs : s.size ≤ 281474976710656) :
    Calls Tryz.prog 120 #[.string s, .int .i64 10, .int .i64 32] w fun e w' => ∃ ev, e = .returned (.tuple #[.int .u64 (puV s.data.toList), ev]) ∧ ErrIs (puOk s.data.toList) ev ∧ Below w.heap.size w w' := by
  obtain ⟨t, p, h2⟩ := hG.syn
  obtain ⟨t3, p3, h3⟩ := hG.ran
  cases hc : Lib.parseUintB 32 s.data.toList with
  | ok v =>
    refine (Tryz.strconv_ParseUint_10_at32_ok s (by omega) v hc w).mono fun e w' ⟨he, hw⟩ => ⟨_, he.trans (by rw [puV, hc]), .inl ⟨by rw [puOk, hc], rfl⟩, ?_⟩
    rcases hw with rfl | rfl
    · exact Below.refl _ _
    · exact bytesWorld_below _ _ _
  | range =>
    refine (Tryz.strconv_ParseUint_10_at32_range s hs hc _ w h3 (.inr ⟨t3, p3, rfl⟩)).mono fun e w' ⟨N, he, _, _, hb⟩ => ⟨_, he.trans (by rw [puV, hc]; rfl), .inr ⟨by rw [puOk, hc], _, _, rfl⟩, hb⟩
  | _ =>
    refine (Tryz.strconv_ParseUint_10_at32_syntax s hs hc _ w h2 (.inr ⟨t, p, rfl⟩)).mono fun e w' ⟨N, he, _, _, hb⟩ => ⟨_, he.trans (by rw [puV, hc]; rfl), .inr ⟨by rw [puOk, hc], _, _, rfl⟩, hb⟩

/-- number: a number's, or a star's, text -/
def numberF (s : ByteArray) : Nat × Bool :=
  if s.data.toList = [42] then (0, true)
  else (puV s.data.toList, puOk s.data.toList && decide (1 ≤ puV s.data.toList) && (Lib.decDigits (puV s.data.toList) == s.data.toList))

set_option maxRecDepth 100000 in
theorem number_any (s : ByteArray) (w : World) (hG : Glob w) (hs : s.size ≤ 4294967280) :
    Calls Tryz.prog 77 #[.string s] w fun e w' => e = .returned (.tuple #[.int .u32 (numberF s).1, .bool (numberF s).2]) ∧ Below w.heap.size w w' := by
  by_cases h42 : s.data.toList = [42]
  · obtain rfl : s = ⟨#[42]⟩ := by apply ByteArray.ext; apply Array.toList_inj.1; rw [h42]
    clear h42
    go_enter Tryz.func77, Tryz.ntmps77
    go_wp2
    go_ret2
    exact ⟨by rw [numberF, if_pos rfl]; rfl, Below.refl _ _⟩
  · have t42 : (s.toList == [42]) = false := beq_eq_false_iff_ne.2 (by rw [ByteArray.toList_eq]; exact h42)
    have hP := parseUint_any s w hG (by omega)
    have hlt := puV_lt s.data.toList
    have fin : numberF s = (puV s.data.toList, puOk s.data.toList && decide (1 ≤ puV s.data.toList) && (Lib.decDigits (puV s.data.toList) == s.data.toList)) := by rw [numberF, if_neg h42]
    have Hf := Lib.hid fin; clear fin h42
    generalize puV s.data.toList = u at hP hlt Hf
    generalize puOk s.data.toList = ok at hP Hf
    go_enter Tryz.func77, Tryz.ntmps77
    go_wp2_with fail
    refine hP.mono ?_; rintro e w1 ⟨ev, rfl, hev, hb⟩
    clear hP
    rcases hev with ⟨rfl, rfl⟩ | ⟨rfl, tp, pv, rfl⟩
    · by_cases hu : 1 ≤ u
      · have hF := formatUint_any u (by omega) w1 (hG.below hb)
        go_wp2_with fail
        refine hF.mono ?_; rintro e w2 ⟨rfl, hb2⟩
        go_wp2
        go_ret2
        exact ⟨by simp [Hf.out, ByteArray.toList_eq, hu], hb.trans (hb2.mono hb.size)⟩
      · go_wp2
        go_ret2
        exact ⟨by simp [Hf.out, hu], hb⟩
    · go_wp2
      go_ret2
      exact ⟨by simp [Hf.out], hb⟩
end Go.Proofs.YtilcfpaimhiofaaGreatDoor
