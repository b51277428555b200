/- flag.lower: what it computes. -/
import Derived.Test.YtilcfpaimhiofaaGreatDoorMapB
namespace Go.Proofs.YtilcfpaimhiofaaGreatDoor
open Go.RowKit

def lowB (c : UInt8) : UInt8 := if 65 ≤ c.toNat ∧ c.toNat ≤ 90 then c + 97 - 65 else c
theorem lowB_yes {c : UInt8} (h1 : 65 ≤ (c.toNat : Int)) (h2 : (c.toNat : Int) ≤ 90) : ((lowB c).toNat : Int) = (c.toNat : Int) + 97 - 65 := by
  rw [lowB, if_pos (by omega)]
  have h := UInt8.toNat_lt c
  simp only [UInt8.toNat_add, UInt8.toNat_sub]
  simp; omega
theorem lowB_no {c : UInt8} (h : ¬ (65 ≤ (c.toNat : Int) ∧ (c.toNat : Int) ≤ 90)) : lowB c = c := by rw [lowB, if_neg (by omega)]

set_option maxHeartbeats 1000000 in
set_option maxRecDepth 100000 in
theorem flower_any (s : ByteArray) (w : World) (hl : s.size ≤ 4294967280) :
    Calls Tryz.prog 117 #[.string s] w fun e w' => e = .returned (.string ⟨(s.data.toList.map lowB).toArray⟩) ∧ Below w.heap.size w w' := by
  have hcv := Lib.run_convert_string_bytes (P := Tryz.prog) w 9 33 5 s Tryz.underlying9 Tryz.underlying33 Tryz.underlying5
  have hM0 := MapRow.start w s
  have hb0 := bytesWorld_below w 5 s
  have hge := grownCap_ge w s.size 0 5
  have hcm := grownCap_le_maxLen w s.size 0 5 (by unfold maxLen; omega)
  generalize Lib.bytesWorld w 5 s = w0 at hcv hM0 hb0
  generalize grownCap w s.size 0 5 = cap at hcv hge hcm
  unfold maxLen at hcm
  go_enter Tryz.func117, Tryz.ntmps117
  go_wp2
  clear hcv
  go_loopw [10] (fun i wr => ∃ k : Nat, k ≤ s.size ∧ i = .int .i64 k ∧ MapRow wr w.heap.size (mapTo lowB s.data.toList k) ∧ Below w.heap.size w wr) (fun i _ => s.size - (intOf i).toNat)
  case atStart => exact ⟨0, Nat.zero_le _, rfl, by rw [mapTo_zero]; exact hM0, hb0⟩
  case round =>
    obtain ⟨k, hk, rfl, hM, hb⟩ := hrel
    by_cases hlt : k < s.size
    · have hlen : k < s.data.toList.length := by rw [size_toList]; exact hlt
      have hc := hM.cell (j := k) (by rw [mapTo_length]; exact hlen)
      rw [mapTo_get lowB _ hlen] at hc
      have hf := hM.frozen (j := k) (by rw [mapTo_length]; exact hlen)
      have e : s.data.toList[k] = s[k] := rfl
      rw [e] at hc
      have hBlt := hM.lt
      by_cases h1 : 65 ≤ (s[k].toNat : Int)
      · by_cases h2 : (s[k].toNat : Int) ≤ 90
        · have hM2 : MapRow (wr.setCell ⟨w.heap.size, k, none⟩ (.int .u8 ((s[k].toNat : Int) + 97 - 65))) w.heap.size (mapTo lowB s.data.toList (k + 1)) := by
            have h := hM.set (j := k) (by rw [mapTo_length]; exact hlen) (lowB s.data.toList[k])
            rw [mapTo_step lowB _ hlen, e, lowB_yes h1 h2] at h
            exact h
          clear hM
          go_wp2
          go_roundw
          case rel => exact ⟨k + 1, by omega, by go_num, hM2, hb.setCell (by simp) _⟩
          case measure => simp [intOf]; omega
        · have hM2 : MapRow wr w.heap.size (mapTo lowB s.data.toList (k + 1)) := by rw [← mapTo_same lowB _ hlen (lowB_no (by rw [e]; omega))]; exact hM
          clear hM
          go_wp2
          go_roundw
          case rel => exact ⟨k + 1, by omega, by go_num, hM2, hb⟩
          case measure => simp [intOf]; omega
      · have hM2 : MapRow wr w.heap.size (mapTo lowB s.data.toList (k + 1)) := by rw [← mapTo_same lowB _ hlen (lowB_no (by rw [e]; omega))]; exact hM
        clear hM
        go_wp2
        go_roundw
        case rel => exact ⟨k + 1, by omega, by go_num, hM2, hb⟩
        case measure => simp [intOf]; omega
    · rw [mapTo_all lowB _ (by rw [size_toList]; omega)] at hM
      have hl2 : (s.data.toList.map lowB).length = s.size := by rw [List.length_map, size_toList]
      have hcv := conv_bytes (hM.at (cap := cap) (by rw [hl2]; exact hge) (by unfold maxLen; omega))
      rw [hl2] at hcv
      clear hl2
      go_wp2
      go_ret
      exact ⟨rfl, hb⟩
end Go.Proofs.YtilcfpaimhiofaaGreatDoor
