/- parse's reader: what take, next and word compute. -/
import Derived.Test.YtilcfpaimhiofaaGreatDoorLex6
import Derived.Test.YtilcfpaimhiofaaGreatDoorGreat
import Derived.Lib.BufferMore
namespace Go.Proofs.YtilcfpaimhiofaaGreatDoor
open Go.RowKit

theorem Blk.set {w : World} {b : Nat} {cs : Array Value} {t : TypeId} (h : Blk w b cs t) (j : Nat) (v : Value) : Blk (w.setCell ⟨b, j, none⟩ v) b (cs.setIfInBounds j v) t := by
  unfold Blk at *
  simp only [World.setCell, Array.getElem?_modify, h]
  simp

/-- the reader -/
def ReadAt (w : World) (R : Nat) (ts : List Tok) (bad : Bool) : Prop :=
  ∃ v, Blk w R #[v, .bool bad] 57 ∧ TokAt w v ts ∧ (∀ b off n c, v = .slice (some ⟨b, off, none⟩) n c → b < R) ∧ ts.length ≤ 200 ∧ ∀ t ∈ ts, t.text.length ≤ 4294967000
theorem ReadAt.lt {w : World} {R : Nat} {ts : List Tok} {bad : Bool} (h : ReadAt w R ts bad) : R < w.heap.size := by obtain ⟨v, h, _⟩ := h; exact h.lt
theorem ReadAt.touch {S : List Nat} {w w' : World} {R : Nat} {ts : List Tok} {bad : Bool} (h : ReadAt w R ts bad) (ht : Touch S w w') (hS : ∀ k ∈ S, R < k) : ReadAt w' R ts bad := by
  obtain ⟨v, h1, h2, h3⟩ := h
  refine ⟨v, h1.touch ht fun hm => Nat.lt_irrefl _ (hS _ hm), h2.keeps ht fun b off n c e hm => ?_, h3⟩
  have := h3.1 b off n c e
  have := hS b hm
  omega
theorem ReadAt.below {w w' : World} {R : Nat} {ts : List Tok} {bad : Bool} (h : ReadAt w R ts bad) (ht : Below w.heap.size w w') : ReadAt w' R ts bad := h.touch (Touch.ofBelow ht) (by simp)
theorem ReadAt.bad {w : World} {R : Nat} {ts : List Tok} {bad : Bool} (h : ReadAt w R ts bad) (b' : Bool) : ReadAt (w.setCell ⟨R, 1, none⟩ (.bool b')) R ts b' := by
  obtain ⟨v, h1, h2, h3⟩ := h
  refine ⟨v, h1.set 1 _, h2.keeps (S := [R]) ((Touch.refl _ _).setCell (.inl (by simp)) _) fun b off n c e hm => ?_, h3⟩
  have := h3.1 b off n c e
  simp at hm
  omega

/-- take: the first token's text, if it is of one of these kinds -/
def takeF (ks : List Int) (ts : List Tok) (bad : Bool) : ByteArray × List Tok × Bool :=
  match ts with
  | [] => (⟨#[]⟩, [], true)
  | t :: r => if bad = false ∧ ks.contains t.kind = true then (⟨t.text.toArray⟩, r, false) else (⟨#[]⟩, t :: r, true)
theorem takeF_bad (ks : List Int) (ts : List Tok) : takeF ks ts true = (⟨#[]⟩, ts, true) := by cases ts <;> simp [takeF]
theorem takeF_len (ks : List Int) (ts : List Tok) (bad : Bool) : (takeF ks ts bad).2.1.length ≤ ts.length := by
  cases ts with
  | nil => simp [takeF]
  | cons t r => simp only [takeF]; split <;> simp

set_option maxHeartbeats 1000000 in
set_option maxRecDepth 100000 in
theorem take_any (R K n c : Nat) (ks : List Int) (ts : List Tok) (bad : Bool) (w : World) (hr : ReadAt w R ts bad) (hn : ks.length = n) (hn' : n ≤ 100)
    (hk : ∀ j, j < ks.length → w.cell? ⟨K, 0 + j, none⟩ = some (.int .i64 (ks.getD j 0))) :
    Calls Tryz.prog 18 #[.pointer (some ⟨R, 0, none⟩), .slice (some ⟨K, 0, none⟩) n c] w fun e w' => e = .returned (.string (takeF ks ts bad).1) ∧ ReadAt w' R (takeF ks ts bad).2.1 (takeF ks ts bad).2.2 ∧ Touch [R] w w' := by
  subst hn
  have hr' := hr
  obtain ⟨v, hB, hT, hlt, hts, hsz⟩ := hr
  have hc0 : w.cell? ⟨R, 0, none⟩ = some v := hB.cell 0
  have hc1 : w.cell? ⟨R, 1, none⟩ = some (.bool bad) := hB.cell 1
  have hf : w.frozen? ⟨R, 1, none⟩ = false := hB.frozen 1
  have hf0 : w.frozen? ⟨R, 0, none⟩ = false := hB.frozen 0
  cases bad with
  | true =>
    rw [takeF_bad]
    go_enter Tryz.func18, Tryz.ntmps18
    go_wp2
    go_ret
    exact ⟨rfl, hr'.bad true, (Touch.refl _ _).setCell (.inl (by simp)) _⟩
  | false =>
    cases ts with
    | nil =>
      obtain ⟨a, cp, rfl⟩ : ∃ a cp, v = .slice a 0 cp := by
        rcases hT with ⟨_, cp, rfl⟩ | ⟨b, off, cp, rfl, _⟩
        · exact ⟨_, _, rfl⟩
        · exact ⟨_, _, rfl⟩
      go_enter Tryz.func18, Tryz.ntmps18
      go_wp2
      go_ret
      exact ⟨rfl, hr'.bad true, (Touch.refl _ _).setCell (.inl (by simp)) _⟩
    | cons t r =>
      obtain ⟨tk, tt⟩ := t
      rcases hT with ⟨h, _⟩ | ⟨b, off, cap, rfl, hl, hm, hc⟩
      · cases h
      have hk0 := (hc 0 (by simp)).1
      have hk1 := (hc 0 (by simp)).2
      simp only [List.getElem_cons_zero, Nat.mul_zero, Nat.add_zero] at hk0 hk1
      have hbR := hlt b off _ _ rfl
      have hC : Calls Tryz.prog 28 #[.slice (some ⟨K, 0, none⟩) ks.length c, .int .i64 tk] w fun e w' => e = .returned (.bool (ks.contains tk)) ∧ w' = w := by
        have h := Tryz.slices_Contains_int K 0 ks.length c ks tk w (by omega) (by omega) hk
        rw [List.take_length] at h; exact h
      clear hk
      have hl' : r.length + 1 ≤ cap := hl
      obtain ⟨m, hm1⟩ : ∃ m, r.length + 1 = m := ⟨_, rfl⟩
      cases hin : ks.contains tk with
      | false =>
        rw [hin] at hC
        have Ht : Hid (takeF ks (⟨tk, tt⟩ :: r) false = (⟨#[]⟩, ⟨tk, tt⟩ :: r, true)) := Lib.hid (by rw [takeF, if_neg (fun h => by have h2 := h.2; simp only at h2; rw [hin] at h2; cases h2)])
        clear hin
        go_enter Tryz.func18, Tryz.ntmps18
        go_wp2_with fail
        refine hC.mono ?_; rintro e w1 ⟨rfl, rfl⟩
        go_wp2
        go_ret
        rw [Ht.out]
        exact ⟨rfl, hr'.bad true, (Touch.refl _ _).setCell (.inl (by simp)) _⟩
      | true =>
        have hRl := hB.lt
        have hcs : Hid (∀ x j (h : j < r.length), ((w.setCell ⟨R, 0, none⟩ x).alloc (.cells #[.int .i64 tk, .string ⟨tt.toArray⟩] 44)).cell? ⟨b, off + 2 + 2 * j, none⟩ = some (.int .i64 r[j].kind) ∧ ((w.setCell ⟨R, 0, none⟩ x).alloc (.cells #[.int .i64 tk, .string ⟨tt.toArray⟩] 44)).cell? ⟨b, off + 2 + 2 * j + 1, none⟩ = some (.string ⟨r[j].text.toArray⟩)) := Lib.hid <| by
          intro x j h
          have ht : Touch [R] w ((w.setCell ⟨R, 0, none⟩ x).alloc (.cells #[.int .i64 tk, .string ⟨tt.toArray⟩] 44)) := ((Touch.refl [R] w).setCell (p := ⟨R, 0, none⟩) (.inl (by simp)) x).alloc _
          have h1 := hc (j + 1) (by simpa using h)
          rw [show off + 2 * (j + 1) = off + 2 + 2 * j by omega] at h1
          exact ⟨ht.keeps h1.1 (by simp; omega), ht.keeps h1.2 (by simp; omega)⟩
        have hA0 : (w.alloc (.cells #[.int .i64 tk, .string ⟨tt.toArray⟩] 44)).cell? ⟨R, 0, none⟩ = some (.slice (some ⟨b, off, none⟩) (r.length + 1) cap) := (hB.touch ((Touch.refl [] _).alloc _) (by simp)).cell 0
        have hAf : (w.alloc (.cells #[.int .i64 tk, .string ⟨tt.toArray⟩] 44)).frozen? ⟨R, 0, none⟩ = false := (hB.touch ((Touch.refl [] _).alloc _) (by simp)).frozen 0
        have hA1 : ∀ x, ((w.alloc (.cells #[.int .i64 tk, .string ⟨tt.toArray⟩] 44)).setCell ⟨R, 0, none⟩ x).cell? ⟨w.heap.size, 1, none⟩ = some (.string ⟨tt.toArray⟩) := fun x =>
          ((Blk.new w #[.int .i64 tk, .string ⟨tt.toArray⟩] 44).touch (S := [R]) ((Touch.refl [R] _).setCell (.inl (by simp)) x) (by simp; omega)).cell 1
        rw [hin] at hC
        have Ht : Hid (takeF ks (⟨tk, tt⟩ :: r) false = (⟨tt.toArray⟩, r, false)) := Lib.hid (by rw [takeF, if_pos ⟨rfl, hin⟩])
        clear hin
        go_enter Tryz.func18, Tryz.ntmps18
        go_wp2_with fail
        refine hC.mono ?_; rintro e w1 ⟨rfl, rfl⟩
        go_wp2
        all_goals go_ret
        all_goals have hm2 : m - 1 = r.length := by omega
        all_goals refine ⟨by rw [Ht.out]; rfl, ?_, ((Touch.refl [R] w1).setCell (p := ⟨R, 0, none⟩) (.inl (by simp)) _).alloc _⟩
        all_goals rw [Ht.out]
        all_goals show ReadAt _ R r false
        · refine ⟨_, (hB.set 0 _).touch ((Touch.refl [] _).alloc _) (by simp), .inr ⟨b, off, 0, by rw [hm2], by omega, by omega, fun j hj => by omega⟩, fun b' off' n c' e => ?_, by simp at hts ⊢; omega, fun t ht => hsz t (by simp [ht])⟩
          cases e; exact hbR
        · refine ⟨_, (hB.set 0 _).touch ((Touch.refl [] _).alloc _) (by simp), .inr ⟨b, off + 2, cap - 1, by rw [hm2], by omega, by omega, fun j hj => hcs.out _ j hj⟩, fun b' off' n c' e => ?_, by simp at hts ⊢; omega, fun t ht => hsz t (by simp [ht])⟩
          cases e; exact hbR

theorem takeF_text (ks : List Int) (ts : List Tok) (bad : Bool) (h : ∀ t ∈ ts, t.text.length ≤ 4294967000) : (takeF ks ts bad).1.size ≤ 4294967000 := by
  cases ts with
  | nil => simp [takeF, ByteArray.size]
  | cons t r =>
    simp only [takeF]
    split
    · rw [size_mk]; exact h t (by simp)
    · simp [ByteArray.size]

/-- next: is the first token of this kind? -/
def nextF (k : Int) (ts : List Tok) (bad : Bool) : Bool :=
  match ts with
  | [] => false
  | t :: _ => !bad && t.kind == k

set_option maxHeartbeats 1000000 in
set_option maxRecDepth 100000 in
theorem next_any (R : Nat) (k : Int) (ts : List Tok) (bad : Bool) (w : World) (hr : ReadAt w R ts bad) :
    Calls Tryz.prog 47 #[.pointer (some ⟨R, 0, none⟩), .int .i64 k] w fun e w' => e = .returned (.bool (nextF k ts bad)) ∧ w' = w := by
  obtain ⟨v, hB, hT, hlt, hts, hsz⟩ := hr
  have hc0 : w.cell? ⟨R, 0, none⟩ = some v := hB.cell 0
  have hc1 : w.cell? ⟨R, 1, none⟩ = some (.bool bad) := hB.cell 1
  cases bad with
  | true =>
    have Hn : Hid (nextF k ts true = false) := Lib.hid (by cases ts <;> simp [nextF])
    go_enter Tryz.func47, Tryz.ntmps47
    go_wp2
    go_ret
    exact ⟨by rw [Hn.out]; rfl, rfl⟩
  | false =>
    cases ts with
    | nil =>
      obtain ⟨a, cp, rfl⟩ : ∃ a cp, v = .slice a 0 cp := by
        rcases hT with ⟨_, cp, rfl⟩ | ⟨b, off, cp, rfl, _⟩
        · exact ⟨_, _, rfl⟩
        · exact ⟨_, _, rfl⟩
      go_enter Tryz.func47, Tryz.ntmps47
      go_wp2
      go_ret
      exact ⟨rfl, rfl⟩
    | cons t r =>
      obtain ⟨tk, tt⟩ := t
      rcases hT with ⟨h, _⟩ | ⟨b, off, cap, rfl, hl, hm, hc⟩
      · cases h
      have hk0 := (hc 0 (by simp)).1
      simp only [List.getElem_cons_zero, Nat.mul_zero, Nat.add_zero] at hk0
      have Hn : Hid (nextF k (⟨tk, tt⟩ :: r) false = (tk == k)) := Lib.hid (by simp [nextF])
      obtain ⟨m, hm1⟩ : ∃ m, r.length + 1 = m := ⟨_, rfl⟩
      go_enter Tryz.func47, Tryz.ntmps47
      go_wp2
      go_ret
      exact ⟨by rw [Hn.out]; rfl, rfl⟩

theorem kinds_two (w : World) (a b : Int) (t : TypeId) : ∀ j, j < [a, b].length → (w.alloc (.cells #[.int .i64 a, .int .i64 b] t)).cell? ⟨w.heap.size, 0 + j, none⟩ = some (.int .i64 ([a, b].getD j 0)) := by
  intro j hj
  rw [Nat.zero_add, (Blk.new w #[.int .i64 a, .int .i64 b] t).cell j]
  match j, hj with
  | 0, _ => rfl
  | 1, _ => rfl
theorem kinds_one (w : World) (a : Int) (t : TypeId) : ∀ j, j < [a].length → (w.alloc (.cells #[.int .i64 a] t)).cell? ⟨w.heap.size, 0 + j, none⟩ = some (.int .i64 ([a].getD j 0)) := by
  intro j hj
  rw [Nat.zero_add, (Blk.new w #[.int .i64 a] t).cell j]
  match j, hj with
  | 0, _ => rfl

/-- take, of one kind, the slice just made -/
theorem take_one (R : Nat) (a : Int) (ts : List Tok) (bad : Bool) (w : World) (hr : ReadAt w R ts bad) :
    Calls Tryz.prog 18 #[.pointer (some ⟨R, 0, none⟩), .slice (some ⟨w.heap.size, 0, none⟩) 1 1] (w.alloc (.cells #[.int .i64 a] 3)) fun e w' => e = .returned (.string (takeF [a] ts bad).1) ∧ ReadAt w' R (takeF [a] ts bad).2.1 (takeF [a] ts bad).2.2 ∧ Touch [R] w w' :=
  (take_any R w.heap.size 1 1 [a] ts bad _ (hr.touch ((Touch.refl [] _).alloc _) (by simp)) rfl (by omega) (kinds_one w a _)).mono fun _ _ h => ⟨h.1, h.2.1, ((Touch.refl _ _).alloc _).trans h.2.2⟩

theorem take_two (R : Nat) (a b : Int) (ts : List Tok) (bad : Bool) (w : World) (hr : ReadAt w R ts bad) :
    Calls Tryz.prog 18 #[.pointer (some ⟨R, 0, none⟩), .slice (some ⟨w.heap.size, 0, none⟩) 2 2] (w.alloc (.cells #[.int .i64 a, .int .i64 b] 3)) fun e w' => e = .returned (.string (takeF [a, b] ts bad).1) ∧ ReadAt w' R (takeF [a, b] ts bad).2.1 (takeF [a, b] ts bad).2.2 ∧ Touch [R] w w' :=
  (take_any R w.heap.size 2 2 [a, b] ts bad _ (hr.touch ((Touch.refl [] _).alloc _) (by simp)) rfl (by omega) (kinds_two w a b _)).mono fun _ _ h => ⟨h.1, h.2.1, ((Touch.refl _ _).alloc _).trans h.2.2⟩

set_option maxHeartbeats 1000000 in
set_option maxRecDepth 100000 in
theorem word_any (R : Nat) (ts : List Tok) (bad : Bool) (w : World) (hr : ReadAt w R ts bad) :
    Calls Tryz.prog 29 #[.pointer (some ⟨R, 0, none⟩)] w fun e w' => e = .returned (.string (takeF [1, 2] ts bad).1) ∧ ReadAt w' R (takeF [1, 2] ts bad).2.1 (takeF [1, 2] ts bad).2.2 ∧ Touch [R] w w' := by
  have hT := take_two R 1 2 ts bad w hr
  generalize takeF [1, 2] ts bad = x at hT
  go_enter Tryz.func29, Tryz.ntmps29
  go_wp2_with fail
  refine hT.mono ?_; rintro e w1 ⟨rfl, h1, h2⟩
  go_wp2
  go_ret
  exact ⟨rfl, h1, h2⟩

/-- the same, without what it holds -/
def Reads (w : World) (R : Nat) : Prop := ∃ ts bad, ReadAt w R ts bad
theorem Reads.lt {w : World} {R : Nat} (h : Reads w R) : R < w.heap.size := by obtain ⟨_, _, h⟩ := h; exact h.lt
theorem Reads.touch {S : List Nat} {w w' : World} {R : Nat} (h : Reads w R) (ht : Touch S w w') (hS : ∀ k ∈ S, R < k) : Reads w' R := by obtain ⟨a, b, h⟩ := h; exact ⟨a, b, h.touch ht hS⟩
theorem Reads.below {w w' : World} {R : Nat} (h : Reads w R) (ht : Below w.heap.size w w') : Reads w' R := by obtain ⟨a, b, h⟩ := h; exact ⟨a, b, h.below ht⟩
theorem Reads.bad {w : World} {R : Nat} (h : Reads w R) (b' : Bool) : Reads (w.setCell ⟨R, 1, none⟩ (.bool b')) R := by obtain ⟨a, b, h⟩ := h; exact ⟨a, b', h.bad b'⟩
theorem Reads.cells {w : World} {R : Nat} (h : Reads w R) : ∃ a n c bad, n ≤ 200 ∧ w.cell? ⟨R, 0, none⟩ = some (.slice a n c) ∧ w.cell? ⟨R, 1, none⟩ = some (.bool bad) ∧ w.frozen? ⟨R, 0, none⟩ = false ∧ w.frozen? ⟨R, 1, none⟩ = false := by
  obtain ⟨ts, bad, v, h1, h2, h3, h4, h5⟩ := h
  obtain ⟨a, n, c, hn, rfl⟩ : ∃ a n c, n ≤ 200 ∧ v = .slice a n c := by
    rcases h2 with ⟨_, cp, rfl⟩ | ⟨b, off, cp, rfl, _⟩
    · exact ⟨_, _, _, by omega, rfl⟩
    · exact ⟨_, _, _, h4, rfl⟩
  exact ⟨a, n, c, bad, hn, h1.cell 0, h1.cell 1, h1.frozen 0, h1.frozen 1⟩
def TakeS (R : Nat) (w : World) (e : Ending) (w' : World) : Prop := ∃ s, e = .returned (.string s) ∧ s.size ≤ 4294967000 ∧ Reads w' R ∧ Touch [R] w w'
theorem take_s {R : Nat} {w : World} (hr : Reads w R) (a : Int) :
    Calls Tryz.prog 18 #[.pointer (some ⟨R, 0, none⟩), .slice (some ⟨w.heap.size, 0, none⟩) 1 1] (w.alloc (.cells #[.int .i64 a] 3)) (TakeS R w) := by
  obtain ⟨ts, bad, hr⟩ := hr
  refine (take_one R a ts bad w hr).mono fun e w' h => ?_
  obtain ⟨_, _, _, _, h5⟩ := hr
  exact ⟨_, h.1, takeF_text _ _ _ h5.2, ⟨_, _, h.2.1⟩, h.2.2⟩
theorem word_s {R : Nat} {w : World} (hr : Reads w R) : Calls Tryz.prog 29 #[.pointer (some ⟨R, 0, none⟩)] w (TakeS R w) := by
  obtain ⟨ts, bad, hr⟩ := hr
  refine (word_any R ts bad w hr).mono fun e w' h => ?_
  obtain ⟨_, _, _, _, h5⟩ := hr
  exact ⟨_, h.1, takeF_text _ _ _ h5.2, ⟨_, _, h.2.1⟩, h.2.2⟩
theorem next_s {R : Nat} {w : World} (hr : Reads w R) (k : Int) : Calls Tryz.prog 47 #[.pointer (some ⟨R, 0, none⟩), .int .i64 k] w fun e w' => ∃ b, e = .returned (.bool b) ∧ w' = w := by
  obtain ⟨ts, bad, hr⟩ := hr
  exact (next_any R k ts bad w hr).mono fun e w' h => ⟨_, h.1, h.2⟩
end Go.Proofs.YtilcfpaimhiofaaGreatDoor
