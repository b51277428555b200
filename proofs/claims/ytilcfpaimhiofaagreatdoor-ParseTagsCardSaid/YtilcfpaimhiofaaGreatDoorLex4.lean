/- lex.one: what it computes. -/
import Derived.Test.YtilcfpaimhiofaaGreatDoorLex3
namespace Go.Proofs.YtilcfpaimhiofaaGreatDoor
open Go.RowKit

structure Tok where
  kind : Int
  text : List UInt8
deriving DecidableEq

/-- one: a token, and what stands behind it -/
def oneF (l : List UInt8) : Tok × List UInt8 × Bool :=
  match l with
  | [] => (⟨1, []⟩, [], false)
  | c :: r =>
    if c = 40 then (⟨3, []⟩, r, true)
    else if c = 41 then (⟨4, []⟩, r, true)
    else if c = 34 then match quotedL r [] with | none => (⟨2, []⟩, [], false) | some (a, b) => (⟨2, a⟩, b, true)
    else if c = 123 then match countedF l with | none => (⟨2, []⟩, [], false) | some (a, b) => (⟨2, a⟩, b, true)
    else (⟨1, l.takeWhile isPlain⟩, l.dropWhile isPlain, decide (0 < (l.takeWhile isPlain).length))
def tokV (t : Tok) : Value := .agg #[.int .i64 t.kind, .string ⟨t.text.toArray⟩]
def oneV (x : Tok × List UInt8 × Bool) : Ending := .returned (.tuple #[tokV x.1, .string ⟨x.2.1.toArray⟩, .bool x.2.2])

theorem takeWhile_of {p : UInt8 → Bool} : ∀ {l : List UInt8} {k : Nat}, k ≤ l.length → (l.take k).all p = true → (∀ h : k < l.length, p l[k] = false) → l.takeWhile p = l.take k ∧ l.dropWhile p = l.drop k
  | [], k, hk, _, _ => by simp
  | c :: l, 0, _, _, h => by have := h (by simp); simp at this; simp [this]
  | c :: l, k + 1, hk, ha, h => by
    simp only [List.take_succ_cons, List.all_cons, Bool.and_eq_true] at ha
    have ih := takeWhile_of (l := l) (k := k) (by simpa using hk) ha.2 (fun h' => h (by simp; omega))
    simp [ha.1, ih.1, ih.2]

set_option maxHeartbeats 1000000 in
set_option maxRecDepth 100000 in
theorem one_any (s : ByteArray) (w : World) (hG : Glob w) (h0 : 0 < s.size) (hl : s.size ≤ 4294967280) :
    Calls Tryz.prog 26 #[.string s] w fun e w' => e = oneV (oneF s.data.toList) ∧ Below w.heap.size w w' := by
  have hc : s.data.toList = s[0] :: s.data.toList.drop 1 := by have := drop_cons h0; simpa using this
  have fin : oneF s.data.toList = if s[0] = 40 then (⟨3, []⟩, s.data.toList.drop 1, true)
    else if s[0] = 41 then (⟨4, []⟩, s.data.toList.drop 1, true)
    else if s[0] = 34 then match quotedL (s.data.toList.drop 1) [] with | none => (⟨2, []⟩, [], false) | some (a, b) => (⟨2, a⟩, b, true)
    else if s[0] = 123 then match countedF s.data.toList with | none => (⟨2, []⟩, [], false) | some (a, b) => (⟨2, a⟩, b, true)
    else (⟨1, s.data.toList.takeWhile isPlain⟩, s.data.toList.dropWhile isPlain, decide (0 < (s.data.toList.takeWhile isPlain).length)) := by
    conv => lhs; rw [hc, oneF, ← hc]
  have Hf := Lib.hid fin; clear fin hc
  obtain ⟨d, hx, Hd⟩ := ext_from s 1
  by_cases c40 : s[0] = 40
  · have t40 := beqY 40 c40
    have Hf' := Lib.hid (Hf.out.trans (if_pos c40)); clear Hf c40
    go_enter Tryz.func26, Tryz.ntmps26
    go_wp2_with fail
    go_region
    all_goals go_wp2
    all_goals exact bodyPost_ret (v := .tuple #[.agg #[.int .i64 3, .string ⟨#[]⟩], .string d, .bool true]) (by simp [results, Tryz.results26, go_sem]) rfl ⟨by rw [Hf'.out, Hd.out]; simp [oneV, tokV], ((Below.refl _ _).alloc (Nat.le_refl _) _).drew⟩
  have t40 := beqN 40 c40
  have Hf1 := Lib.hid (Hf.out.trans (if_neg c40)); clear Hf c40
  by_cases c41 : s[0] = 41
  · have t41 := beqY 41 c41
    have Hf' := Lib.hid (Hf1.out.trans (if_pos c41)); clear Hf1 c41
    go_enter Tryz.func26, Tryz.ntmps26
    go_wp2_with fail
    go_region
    all_goals go_wp2
    all_goals exact bodyPost_ret (v := .tuple #[.agg #[.int .i64 4, .string ⟨#[]⟩], .string d, .bool true]) (by simp [results, Tryz.results26, go_sem]) rfl ⟨by rw [Hf'.out, Hd.out]; simp [oneV, tokV], ((Below.refl _ _).alloc (Nat.le_refl _) _).drew⟩
  have t41 := beqN 41 c41
  have Hf2 := Lib.hid (Hf1.out.trans (if_neg c41)); clear Hf1 c41
  clear hx Hd
  have hb0 : ∀ o, Below w.heap.size w (w.alloc o) := fun o => (Below.refl _ _).alloc (Nat.le_refl _) o
  by_cases c34 : s[0] = 34
  · have t34 := beqY 34 c34
    have Hg := Lib.hid (Hf2.out.trans (if_pos c34)); clear Hf2 c34
    cases hq : quotedL (s.data.toList.drop 1) [] with
    | none =>
      have hQ : ∀ w1 : World, Calls Tryz.prog 41 #[.string s] w1 fun e w' => e = .returned (.tuple #[.string ⟨#[]⟩, .string ⟨#[]⟩, .bool false]) ∧ Below w1.heap.size w1 w' := fun w1 => by
        have h := quoted_any s w1 hl; rw [hq] at h; exact h
      rw [hq] at Hg
      clear hq
      go_enter Tryz.func26, Tryz.ntmps26
      go_wp2_with fail
      refine (hQ _).mono ?_
      rintro e w1 ⟨rfl, hb1⟩
      have hb2 := (hb0 _).trans (hb1.mono (by simp))
      have hz : w.heap.size < w1.heap.size := by have := hb1.size; simp at this; omega
      have hB := (Blk.new w #[.int .i64 0, .string ⟨#[]⟩] 44).below hb1
      have hc0 : w1.cell? ⟨w.heap.size, 0, none⟩ = some (.int .i64 0) := hB.cell 0
      have hc1 : w1.cell? ⟨w.heap.size, 1, none⟩ = some (.string ⟨#[]⟩) := hB.cell 1
      have hf0 := hB.frozen 0
      have hf1 := hB.frozen 1
      clear hb1 hB
      go_wp2
      exact bodyPost_ret (v := .tuple #[.agg #[.int .i64 2, .string ⟨#[]⟩], .string ⟨#[]⟩, .bool false]) (by simp [results, Tryz.results26, go_sem, hc0, hc1]) rfl ⟨by rw [Hg.out]; simp [oneV, tokV], (hb2.setCell (by simp) _).setCell (by simp) _⟩
    | some ab =>
      obtain ⟨a, b⟩ := ab
      have hQ : ∀ w1 : World, Calls Tryz.prog 41 #[.string s] w1 fun e w' => e = .returned (.tuple #[.string ⟨a.toArray⟩, .string ⟨b.toArray⟩, .bool true]) ∧ Below w1.heap.size w1 w' := fun w1 => by
        have h := quoted_any s w1 hl; rw [hq] at h; exact h
      rw [hq] at Hg
      clear hq
      go_enter Tryz.func26, Tryz.ntmps26
      go_wp2_with fail
      refine (hQ _).mono ?_
      rintro e w1 ⟨rfl, hb1⟩
      have hb2 := (hb0 _).trans (hb1.mono (by simp))
      have hz : w.heap.size < w1.heap.size := by have := hb1.size; simp at this; omega
      have hB := (Blk.new w #[.int .i64 0, .string ⟨#[]⟩] 44).below hb1
      have hc0 : w1.cell? ⟨w.heap.size, 0, none⟩ = some (.int .i64 0) := hB.cell 0
      have hc1 : w1.cell? ⟨w.heap.size, 1, none⟩ = some (.string ⟨#[]⟩) := hB.cell 1
      have hf0 := hB.frozen 0
      have hf1 := hB.frozen 1
      clear hb1 hB
      go_wp2
      exact bodyPost_ret (v := .tuple #[.agg #[.int .i64 2, .string ⟨a.toArray⟩], .string ⟨b.toArray⟩, .bool true]) (by simp [results, Tryz.results26, go_sem, hc0, hc1]) rfl ⟨by rw [Hg.out]; simp [oneV, tokV], (hb2.setCell (by simp) _).setCell (by simp) _⟩
  have t34 := beqN 34 c34
  have Hf3 := Lib.hid (Hf2.out.trans (if_neg c34)); clear Hf2 c34
  by_cases c123 : s[0] = 123
  · have t123 := beqY 123 c123
    have Hg := Lib.hid (Hf3.out.trans (if_pos c123)); clear Hf3 c123
    cases hq : countedF s.data.toList with
    | none =>
      have hQ : ∀ w1 : World, Glob w1 → Calls Tryz.prog 42 #[.string s] w1 fun e w' => e = .returned (.tuple #[.string ⟨#[]⟩, .string ⟨#[]⟩, .bool false]) ∧ Below w1.heap.size w1 w' := fun w1 hg => by
        have h := counted_any s w1 hg hl; rw [hq] at h; exact h
      rw [hq] at Hg
      clear hq
      go_enter Tryz.func26, Tryz.ntmps26
      go_wp2_with fail
      refine (hQ _ (hG.below (hb0 _))).mono ?_
      rintro e w1 ⟨rfl, hb1⟩
      have hb2 := (hb0 _).trans (hb1.mono (by simp))
      have hz : w.heap.size < w1.heap.size := by have := hb1.size; simp at this; omega
      have hB := (Blk.new w #[.int .i64 0, .string ⟨#[]⟩] 44).below hb1
      have hc0 : w1.cell? ⟨w.heap.size, 0, none⟩ = some (.int .i64 0) := hB.cell 0
      have hc1 : w1.cell? ⟨w.heap.size, 1, none⟩ = some (.string ⟨#[]⟩) := hB.cell 1
      have hf0 := hB.frozen 0
      have hf1 := hB.frozen 1
      clear hb1 hB
      go_wp2
      exact bodyPost_ret (v := .tuple #[.agg #[.int .i64 2, .string ⟨#[]⟩], .string ⟨#[]⟩, .bool false]) (by simp [results, Tryz.results26, go_sem, hc0, hc1]) rfl ⟨by rw [Hg.out]; simp [oneV, tokV], (hb2.setCell (by simp) _).setCell (by simp) _⟩
    | some ab =>
      obtain ⟨a, b⟩ := ab
      have hQ : ∀ w1 : World, Glob w1 → Calls Tryz.prog 42 #[.string s] w1 fun e w' => e = .returned (.tuple #[.string ⟨a.toArray⟩, .string ⟨b.toArray⟩, .bool true]) ∧ Below w1.heap.size w1 w' := fun w1 hg => by
        have h := counted_any s w1 hg hl; rw [hq] at h; exact h
      rw [hq] at Hg
      clear hq
      go_enter Tryz.func26, Tryz.ntmps26
      go_wp2_with fail
      refine (hQ _ (hG.below (hb0 _))).mono ?_
      rintro e w1 ⟨rfl, hb1⟩
      have hb2 := (hb0 _).trans (hb1.mono (by simp))
      have hz : w.heap.size < w1.heap.size := by have := hb1.size; simp at this; omega
      have hB := (Blk.new w #[.int .i64 0, .string ⟨#[]⟩] 44).below hb1
      have hc0 : w1.cell? ⟨w.heap.size, 0, none⟩ = some (.int .i64 0) := hB.cell 0
      have hc1 : w1.cell? ⟨w.heap.size, 1, none⟩ = some (.string ⟨#[]⟩) := hB.cell 1
      have hf0 := hB.frozen 0
      have hf1 := hB.frozen 1
      clear hb1 hB
      go_wp2
      exact bodyPost_ret (v := .tuple #[.agg #[.int .i64 2, .string ⟨a.toArray⟩], .string ⟨b.toArray⟩, .bool true]) (by simp [results, Tryz.results26, go_sem, hc0, hc1]) rfl ⟨by rw [Hg.out]; simp [oneV, tokV], (hb2.setCell (by simp) _).setCell (by simp) _⟩
  have t123 := beqN 123 c123
  have Hg := Lib.hid (Hf3.out.trans (if_neg c123)); clear Hf3 c123
  go_enter Tryz.func26, Tryz.ntmps26
  go_wp2
  go_loop [12] (fun i => ∃ k : Nat, k ≤ s.size ∧ i = .int .i64 k ∧ (s.data.toList.take k).all isPlain = true) (fun i => s.size - (intOf i).toNat)
  case atStart => exact ⟨0, Nat.zero_le _, rfl, rfl⟩
  case round =>
    obtain ⟨k, hk, rfl, hall⟩ := hrel
    have HA := Lib.hid hall; clear hall
    by_cases hlt : k < s.size
    · have hP := plain_any s[k]
      cases hp : isPlain s[k] with
      | true =>
        have Hp := Lib.hid hp
        simp only [hp] at hP
        clear hp
        go_wp2_with fail
        refine (hP _).mono ?_; rintro e w1 ⟨rfl, rfl⟩
        go_wp2
        go_round
        case rel => exact ⟨k + 1, by omega, by go_num, all_snoc hlt HA.out Hp.out⟩
        case measure => simp [intOf]; omega
      | false =>
        have Hp := Lib.hid hp
        simp only [hp] at hP
        clear hp
        go_wp2_with fail
        refine (hP _).mono ?_; rintro e w1 ⟨rfl, rfl⟩
        have hlen : (s.data.toList.take k).length = k := by rw [List.length_take, size_toList]; omega
        have htk := takeWhile_of (p := isPlain) (l := s.data.toList) (k := k) (by rw [size_toList]; exact hk) HA.out (fun _ => Hp.out)
        have Hk := Lib.hid (And.intro hlen htk); clear hlen htk
        obtain ⟨x1, hx1, Hx1⟩ := ext_to s k
        obtain ⟨x2, hx2, Hx2⟩ := ext_from s k
        go_wp2_with fail
        go_region
        all_goals go_wp2
        all_goals exact bodyPost_ret (v := .tuple #[.agg #[.int .i64 1, .string x1], .string x2, .bool (decide (0 < k))]) (by simp [results, Tryz.results26, go_sem]) rfl ⟨by rw [Hg.out, Hk.out.2.1, Hk.out.2.2, Hk.out.1, Hx1.out, Hx2.out]; simp [oneV, tokV], ((Below.refl _ _).alloc (Nat.le_refl _) _).drew⟩
    · have hlen : (s.data.toList.take k).length = k := by rw [List.length_take, size_toList]; omega
      have htk := takeWhile_of (p := isPlain) (l := s.data.toList) (k := k) (by rw [size_toList]; exact hk) HA.out (fun h => absurd (by rw [size_toList] at h; exact h) hlt)
      have Hk := Lib.hid (And.intro hlen htk); clear hlen htk
      obtain ⟨x1, hx1, Hx1⟩ := ext_to s k
      obtain ⟨x2, hx2, Hx2⟩ := ext_from s k
      go_wp2_with fail
      go_region
      all_goals go_wp2
      all_goals exact bodyPost_ret (v := .tuple #[.agg #[.int .i64 1, .string x1], .string x2, .bool (decide (0 < k))]) (by simp [results, Tryz.results26, go_sem]) rfl ⟨by rw [Hg.out, Hk.out.2.1, Hk.out.2.2, Hk.out.1, Hx1.out, Hx2.out]; simp [oneV, tokV], ((Below.refl _ _).alloc (Nat.le_refl _) _).drew⟩
end Go.Proofs.YtilcfpaimhiofaaGreatDoor
