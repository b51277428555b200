/- date.number, date.ascii, date.signs, date.named: what they compute. -/
import Derived.Test.YtilcfpaimhiofaaGreatDoorWrap
namespace Go.Proofs.YtilcfpaimhiofaaGreatDoor
open Go.RowKit

def isDig (c : UInt8) : Bool := decide (48 ≤ c.toNat) && decide (c.toNat ≤ 57)
def dateNum : List UInt8 → Int → Int
  | [], n => n
  | c :: r, n => if isDig c then dateNum r (n * 10 + ((c.toNat : Int) - 48)) else -1

set_option maxHeartbeats 1000000 in
set_option maxRecDepth 100000 in
theorem dnumber_any (s : ByteArray) (w : World) (hl : s.size ≤ 9) :
    Calls Tryz.prog 73 #[.string s] w fun e w' => e = .returned (.int .i64 (dateNum s.data.toList 0)) ∧ w = w' := by
  go_enter Tryz.func73, Tryz.ntmps73
  go_wp2
  go_loop [3, 7] (fun nv i => ∃ (k : Nat) (n : Int), k ≤ s.size ∧ i = .int .i64 k ∧ nv = .int .i64 n ∧ 0 ≤ n ∧ n.toNat < 10 ^ k ∧ dateNum s.data.toList 0 = dateNum (s.data.toList.drop k) n) (fun _ i => s.size - (intOf i).toNat)
  case atStart => exact ⟨0, 0, Nat.zero_le _, rfl, rfl, by omega, by omega, rfl⟩
  case round =>
    obtain ⟨k, n, hk, rfl, rfl, hn0, hn1, hq⟩ := hrel
    have Hq := Lib.hid hq; clear hq
    have hk9 : n.toNat < 10 ^ 9 := Nat.lt_of_lt_of_le hn1 (Nat.pow_le_pow_right (by decide) (by omega))
    have hn2 : n < 1000000000 := by omega
    have Hn1 := Lib.hid hn1; clear hn1 hk9
    by_cases hlt : k < s.size
    · have Hd := Lib.hid (drop_cons hlt)
      by_cases h1 : 48 ≤ (s[k].toNat : Int)
      · by_cases h2 : (s[k].toNat : Int) ≤ 57
        · have Hs := Lib.hid (show dateNum (s.data.toList.drop k) n = dateNum (s.data.toList.drop (k + 1)) (n * 10 + ((s[k].toNat : Int) - 48)) by rw [Hd.out, dateNum, if_pos (by simp [isDig]; omega)])
          have hp := Hn1.out
          have Hp := Lib.hid (show (n * 10 + ((s[k].toNat : Int) - 48)).toNat < 10 ^ (k + 1) by rw [Nat.pow_succ]; omega)
          clear hp
          go_wp2
          go_round
          case rel => exact ⟨k + 1, n * 10 + ((s[k].toNat : Int) - 48), by omega, by go_num, rfl, by omega, Hp.out, by rw [Hq.out, Hs.out]⟩
          case measure => simp [intOf]; omega
        · go_wp2
          go_ret
          exact ⟨ret_int (by rw [Hq.out, Hd.out, dateNum, if_neg (by simp [isDig]; omega)]), rfl⟩
      · go_wp2
        go_ret
        exact ⟨ret_int (by rw [Hq.out, Hd.out, dateNum, if_neg (by simp [isDig]; omega)]), rfl⟩
    · have Hd := Lib.hid (drop_nil hlt)
      go_wp2
      go_ret
      exact ⟨ret_int (by rw [Hq.out, Hd.out, dateNum]), rfl⟩

theorem dateNum_bd : ∀ (l : List UInt8) (n : Int), 0 ≤ n → -1 ≤ dateNum l n ∧ dateNum l n < (n + 1) * 10 ^ l.length
  | [], n, h => by simp [dateNum]; omega
  | c :: r, n, h => by
    unfold dateNum
    split
    · rename_i hd
      simp [isDig] at hd
      have ih := dateNum_bd r (n * 10 + ((c.toNat : Int) - 48)) (by omega)
      refine ⟨ih.1, Int.lt_of_lt_of_le ih.2 ?_⟩
      rw [List.length_cons, Int.pow_succ, Int.mul_comm (10 ^ r.length) 10, ← Int.mul_assoc]
      exact Int.mul_le_mul_of_nonneg_right (by omega) (Int.pow_nonneg (by omega))
    · have : (0 : Int) < (n + 1) * 10 ^ (c :: r).length := Int.mul_pos (by omega) (Int.pow_pos (by omega))
      omega

def asciiB (c : UInt8) : Bool := decide (c.toNat < 128)
def asciiL (s : ByteArray) : Bool := s.data.toList.all asciiB
set_option maxRecDepth 100000 in
theorem dascii_any (s : ByteArray) (w : World) (hl : s.size ≤ 4294967280) :
    Calls Tryz.prog 71 #[.string s] w fun e w' => e = .returned (.bool (asciiL s)) ∧ w = w' := by
  go_enter Tryz.func71, Tryz.ntmps71
  go_wp2
  go_loop [6] (fun i => ∃ k : Nat, k ≤ s.size ∧ i = .int .i64 k ∧ (s.data.toList.take k).all asciiB = true) (fun i => s.size - (intOf i).toNat)
  case atStart => exact ⟨0, Nat.zero_le _, rfl, rfl⟩
  case round =>
    obtain ⟨k, hk, rfl, hall⟩ := hrel
    have HA := Lib.hid hall; clear hall
    by_cases hlt : k < s.size
    · by_cases h1 : 128 ≤ (s[k].toNat : Int)
      · go_wp2
        go_ret
        exact ⟨ret_bool (by rw [asciiL, all_not hlt (by simp [asciiB]; omega)]), rfl⟩
      · go_wp2
        go_round
        case rel => exact ⟨k + 1, by omega, by go_num, all_snoc hlt HA.out (by simp [asciiB]; omega)⟩
        case measure => simp [intOf]; omega
    · go_wp2
      go_ret
      exact ⟨ret_bool (by rw [asciiL, all_whole hlt HA.out]), rfl⟩

def gb (s : ByteArray) (i : Nat) : UInt8 := (s.data.toList[i]?).getD 0
theorem gb_at {s : ByteArray} {i : Nat} (h : i < s.size) : gb s i = s[i] := by
  rw [gb, List.getElem?_eq_getElem (by rw [size_toList]; exact h)]; rfl
def signsF (s : ByteArray) : Bool :=
  gb s 2 == 45 && (gb s 6 == 45 && (gb s 11 == 32 && (gb s 14 == 58 && (gb s 17 == 58 && (gb s 20 == 32 && (gb s 21 == 43 || gb s 21 == 45))))))
set_option maxHeartbeats 1000000 in
set_option maxRecDepth 100000 in
theorem dsigns_any (s : ByteArray) (h : s.size = 26) (w : World) :
    Calls Tryz.prog 72 #[.string s] w fun e w' => e = .returned (.bool (signsF s)) ∧ w = w' := by
  have b : 26 ≤ s.size := by omega
  have b' : s.size ≤ 26 := by omega
  have key : ∀ v : Bool, v = signsF s → (∀ w, Calls Tryz.prog 72 #[.string s] w fun e w' => e = .returned (.bool v) ∧ w = w') → Calls Tryz.prog 72 #[.string s] w fun e w' => e = .returned (.bool (signsF s)) ∧ w = w' := fun v hv k => by rw [← hv]; exact k w
  have hg : ∀ i (hi : i < s.size), gb s i = s[i] := fun i hi => gb_at hi
  clear h
  have fin : signsF s = (s[2] == 45 && (s[6] == 45 && (s[11] == 32 && (s[14] == 58 && (s[17] == 58 && (s[20] == 32 && (s[21] == 43 || s[21] == 45))))))) := by
    rw [signsF, hg 2 (by omega), hg 6 (by omega), hg 11 (by omega), hg 14 (by omega), hg 17 (by omega), hg 20 (by omega), hg 21 (by omega)]
  clear hg
  by_cases c2 : s[2] = 45
  · have t2 := beqY 45 c2
    by_cases c6 : s[6] = 45
    · have t6 := beqY 45 c6
      by_cases c11 : s[11] = 32
      · have t11 := beqY 32 c11
        by_cases c14 : s[14] = 58
        · have t14 := beqY 58 c14
          by_cases c17 : s[17] = 58
          · have t17 := beqY 58 c17
            by_cases c20 : s[20] = 32
            · have t20 := beqY 32 c20
              by_cases c21 : s[21] = 43
              · have t21 := beqY 43 c21
                refine key true (by rw [fin]; simp [c2, c6, c11, c14, c17, c20, c21]) fun w => ?_
                clear key fin c2 c6 c11 c14 c17 c20 c21
                go_enter Tryz.func72, Tryz.ntmps72
                go_wp2
                go_ret
                exact ⟨rfl, rfl⟩
              · have t21 := beqN 43 c21
                by_cases d21 : s[21] = 45
                · have u21 := beqY 45 d21
                  refine key true (by rw [fin]; simp [c2, c6, c11, c14, c17, c20, d21]) fun w => ?_
                  clear key fin c2 c6 c11 c14 c17 c20 c21 d21
                  go_enter Tryz.func72, Tryz.ntmps72
                  go_wp2
                  go_ret
                  exact ⟨rfl, rfl⟩
                · have u21 := beqN 45 d21
                  refine key false (by rw [fin]; simp [c2, c6, c11, c14, c17, c20, c21, d21]) fun w => ?_
                  clear key fin c2 c6 c11 c14 c17 c20 c21 d21
                  go_enter Tryz.func72, Tryz.ntmps72
                  go_wp2
                  go_ret
                  exact ⟨rfl, rfl⟩
            · have t20 := beqN 32 c20
              refine key false (by rw [fin]; simp [c20]) fun w => ?_
              clear key fin c2 c6 c11 c14 c17 c20
              go_enter Tryz.func72, Tryz.ntmps72
              go_wp2
              go_ret
              exact ⟨rfl, rfl⟩
          · have t17 := beqN 58 c17
            refine key false (by rw [fin]; simp [c17]) fun w => ?_
            clear key fin c2 c6 c11 c14 c17
            go_enter Tryz.func72, Tryz.ntmps72
            go_wp2
            go_ret
            exact ⟨rfl, rfl⟩
        · have t14 := beqN 58 c14
          refine key false (by rw [fin]; simp [c14]) fun w => ?_
          clear key fin c2 c6 c11 c14
          go_enter Tryz.func72, Tryz.ntmps72
          go_wp2
          go_ret
          exact ⟨rfl, rfl⟩
      · have t11 := beqN 32 c11
        refine key false (by rw [fin]; simp [c11]) fun w => ?_
        clear key fin c2 c6 c11
        go_enter Tryz.func72, Tryz.ntmps72
        go_wp2
        go_ret
        exact ⟨rfl, rfl⟩
    · have t6 := beqN 45 c6
      refine key false (by rw [fin]; simp [c6]) fun w => ?_
      clear key fin c2 c6
      go_enter Tryz.func72, Tryz.ntmps72
      go_wp2
      go_ret
      exact ⟨rfl, rfl⟩
  · have t2 := beqN 45 c2
    refine key false (by rw [fin]; simp [c2]) fun w => ?_
    clear key fin  c2
    go_enter Tryz.func72, Tryz.ntmps72
    go_wp2
    go_ret
    exact ⟨rfl, rfl⟩
end Go.Proofs.YtilcfpaimhiofaaGreatDoor
