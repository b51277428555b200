/- date.month, date.named: what they compute. -/
import Derived.Test.YtilcfpaimhiofaaGreatDoorDate2
namespace Go.Proofs.YtilcfpaimhiofaaGreatDoor
open Go.RowKit

def monthsB : ByteArray := ⟨#[74, 97, 110, 70, 101, 98, 77, 97, 114, 65, 112, 114, 77, 97, 121, 74, 117, 110, 74, 117, 108, 65, 117, 103, 83, 101, 112, 79, 99, 116, 78, 111, 118, 68, 101, 99]⟩
def monthB (m : Nat) : ByteArray := monthsB.extract (3 * (m - 1)) (3 * m)
set_option maxRecDepth 100000 in
theorem month_any (m : Nat) (w : World) (h0 : 1 ≤ m) (h1 : m ≤ 12) :
    Calls Tryz.prog 119 #[.int .i64 m] w fun e w' => e = .returned (.string (monthB m)) ∧ w = w' := by
  have hz : monthsB.size = 36 := rfl
  obtain ⟨k, rfl⟩ : ∃ k, m = k + 1 := ⟨m - 1, by omega⟩
  go_enter Tryz.func119, Tryz.ntmps119
  go_wp2
  go_ret
  exact ⟨congrArg (fun b => Ending.returned (Value.string b)) (by rw [monthB, Nat.add_sub_cancel]; rfl), rfl⟩

def nameEq (s : ByteArray) (m : Nat) : Bool := Lib.toLowerA s.data.toList == Lib.toLowerA (monthB m).data.toList
def namedL (s : ByteArray) : List Nat → Int
  | [] => 0
  | m :: r => if nameEq s m then m else namedL s r
def namedF (s : ByteArray) : Int := namedL s [1, 2, 3, 4, 5, 6, 7, 8, 9, 10, 11, 12]
def from12 (k : Nat) : List Nat := [1, 2, 3, 4, 5, 6, 7, 8, 9, 10, 11, 12].drop (k - 1)
theorem from12_step : ∀ k, 1 ≤ k → k ≤ 12 → from12 k = k :: from12 (k + 1) := by
  intro k h0 h1
  have : k = 1 ∨ k = 2 ∨ k = 3 ∨ k = 4 ∨ k = 5 ∨ k = 6 ∨ k = 7 ∨ k = 8 ∨ k = 9 ∨ k = 10 ∨ k = 11 ∨ k = 12 := by omega
  rcases this with h | h | h | h | h | h | h | h | h | h | h | h <;> subst h <;> rfl
theorem monthB_ascii : ∀ m, 1 ≤ m → m ≤ 12 → (monthB m).data.toList.all asciiB = true := by
  intro m h0 h1
  have : m = 1 ∨ m = 2 ∨ m = 3 ∨ m = 4 ∨ m = 5 ∨ m = 6 ∨ m = 7 ∨ m = 8 ∨ m = 9 ∨ m = 10 ∨ m = 11 ∨ m = 12 := by omega
  rcases this with h | h | h | h | h | h | h | h | h | h | h | h <;> subst h <;> decide
theorem ascii_get {s : ByteArray} (h : s.data.toList.all asciiB = true) : ∀ (j : Nat) (b : UInt8), s.data.toList[j]? = some b → b.toNat < 128 := by
  intro j b hb
  have := List.all_eq_true.1 h b (List.mem_of_getElem? hb)
  simpa [asciiB] using this

set_option maxHeartbeats 1000000 in
set_option maxRecDepth 100000 in
theorem dnamed_any (s : ByteArray) (w : World) (hl : s.size ≤ 4294967280) (ha : s.data.toList.all asciiB = true) :
    Calls Tryz.prog 74 #[.string s] w fun e w' => e = .returned (.int .i64 (namedF s)) ∧ Below w.heap.size w w' := by
  have hL := fun wx => Tryz.strings_ToLower_ascii s wx (by omega) (ascii_get ha)
  have hM := fun (m : Nat) (h0 : 1 ≤ m) (h1 : m ≤ 12) wx => Tryz.strings_ToLower_ascii (monthB m) wx (by have : (monthB m).size ≤ 36 := by { rw [monthB, ByteArray.size_extract]; show _ ≤ 36; have : monthsB.size = 36 := rfl; omega }; omega) (ascii_get (monthB_ascii m h0 h1))
  have HM := Lib.hid hM; clear hM
  have HL := Lib.hid hL; clear hL ha
  go_enter Tryz.func74, Tryz.ntmps74
  go_wp2
  go_loopw [3] (fun i wr => ∃ k : Nat, 1 ≤ k ∧ k ≤ 13 ∧ i = .int .i64 k ∧ namedF s = namedL s (from12 k) ∧ Below w.heap.size w wr) (fun i _ => 13 - (intOf i).toNat)
  case atStart => exact ⟨1, by omega, by omega, rfl, rfl, Below.refl _ _⟩
  case round =>
    obtain ⟨k, hk0, hk, rfl, hq, hb⟩ := hrel
    have Hq := Lib.hid hq; clear hq
    by_cases hlt : k ≤ 12
    · have hst : namedL s (from12 k) = if nameEq s k then (k : Int) else namedL s (from12 (k + 1)) := by rw [from12_step k hk0 hlt]; rfl
      have Hst := Lib.hid hst; clear hst
      have hne : nameEq s k = (Lib.toLowerA s.data.toList == Lib.toLowerA (monthB k).data.toList) := rfl
      have hM := HM.out k hk0 hlt
      have hL := HL.out
      generalize Lib.toLowerA s.data.toList = a at hL hne
      generalize Lib.toLowerA (monthB k).data.toList = b at hM hne
      have HMk := Lib.hid hM; clear hM
      go_wp2_with fail
      refine (hL wr).mono ?_; rintro e w1 ⟨rfl, hb1⟩
      go_wp2_with fail
      refine (month_any k w1 hk0 hlt).mono ?_; rintro e w2 ⟨rfl, rfl⟩
      go_wp2_with fail
      refine (HMk.out w1).mono ?_; rintro e w2 ⟨rfl, hb2⟩
      have hb3 := hb.trans ((hb1.trans (hb2.mono hb1.size)).mono hb.size)
      clear hb hb1 hb2 hL
      have Hne := Lib.hid hne; clear hne
      by_cases hab : (a == b) = true
      · go_wp2
        go_ret
        exact ⟨ret_int (by rw [Hq.out, Hst.out, Hne.out, if_pos hab]), hb3⟩
      · have hab' : (a == b) = false := by simpa using hab
        clear hab
        go_wp2
        go_roundw
        case rel => exact ⟨k + 1, by omega, by omega, by go_num, by rw [Hq.out, Hst.out, Hne.out, hab']; rfl, hb3⟩
        case measure => simp [intOf]; omega
    · have e : k = 13 := by omega
      have He := Lib.hid e; clear e
      go_wp2
      go_ret
      exact ⟨ret_int (by rw [Hq.out, He.out]; rfl), hb⟩
end Go.Proofs.YtilcfpaimhiofaaGreatDoor
