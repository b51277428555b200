/- parse's reader: message ends. -/
import Derived.Test.YtilcfpaimhiofaaGreatDoorP5
import Derived.Test.YtilcfpaimhiofaaGreatDoorP7
import Derived.Test.YtilcfpaimhiofaaGreatDoorDate4
namespace Go.Proofs.YtilcfpaimhiofaaGreatDoor
open Go.RowKit

/-- what a command's cell holds -/
def fieldOk (j : Nat) (v : Value) : Prop :=
  if j = 2 ∨ j = 10 ∨ j = 11 then ∃ b, v = .bool b
  else if j = 8 ∨ j = 9 ∨ j = 12 then ∃ z, v = .int .i64 z
  else if 13 ≤ j then ∃ a n c, v = .slice a n c
  else ∃ s, v = .string s
/-- a command under way -/
def Cmd (w : World) (C : Nat) (nm : ByteArray) : Prop := ∃ cs : Array Value, Blk w C cs 38 ∧ cs.size = 17 ∧ cs[1]? = some (.string nm) ∧ ∀ j u, cs[j]? = some u → fieldOk j u
theorem Cmd.lt {w : World} {C : Nat} {nm : ByteArray} (h : Cmd w C nm) : C < w.heap.size := by obtain ⟨_, h, _⟩ := h; exact h.lt
theorem Cmd.touch {S : List Nat} {w w' : World} {C : Nat} {nm : ByteArray} (h : Cmd w C nm) (ht : Touch S w w') (hS : C ∉ S) : Cmd w' C nm := by
  obtain ⟨cs, h1, h2, h3, h4⟩ := h
  exact ⟨cs, h1.touch ht hS, h2, h3, h4⟩
theorem Cmd.below {w w' : World} {C : Nat} {nm : ByteArray} (h : Cmd w C nm) (ht : Below w.heap.size w w') : Cmd w' C nm := h.touch (Touch.ofBelow ht) (by simp)
theorem Cmd.cell {w : World} {C : Nat} {nm : ByteArray} (h : Cmd w C nm) (j : Nat) (hj : j < 17) : ∃ x, w.cell? ⟨C, j, none⟩ = some x := by
  obtain ⟨cs, h1, h2, h3, h4⟩ := h
  exact ⟨cs[j], by rw [h1.cell]; exact Array.getElem?_eq_getElem (by omega)⟩
theorem Cmd.name {w : World} {C : Nat} {nm : ByteArray} (h : Cmd w C nm) : w.cell? ⟨C, 1, none⟩ = some (.string nm) := by
  obtain ⟨cs, h1, h2, h3, h4⟩ := h
  rw [h1.cell, h3]
theorem Cmd.frozen {w : World} {C : Nat} {nm : ByteArray} (h : Cmd w C nm) (j : Nat) : w.frozen? ⟨C, j, none⟩ = false := by
  obtain ⟨cs, h1, _⟩ := h
  exact h1.frozen j
theorem Cmd.field {w : World} {C : Nat} {nm : ByteArray} (h : Cmd w C nm) (j : Nat) (hj : j < 17) : ∃ x, w.cell? ⟨C, j, none⟩ = some x ∧ fieldOk j x := by
  obtain ⟨cs, h1, h2, h3, h4⟩ := h
  exact ⟨cs[j], by rw [h1.cell]; exact Array.getElem?_eq_getElem (by omega), h4 j _ (Array.getElem?_eq_getElem (by omega))⟩
theorem fields_set {cs : Array Value} (h : ∀ j u, cs[j]? = some u → fieldOk j u) (j : Nat) (v : Value) (hv : fieldOk j v) : ∀ i u, (cs.setIfInBounds j v)[i]? = some u → fieldOk i u := by
  intro i u hu
  rw [Array.getElem?_setIfInBounds] at hu
  split at hu
  · rename_i e
    subst e
    split at hu
    · cases hu; exact hv
    · cases hu
  · exact h i u hu
theorem Cmd.set {w : World} {C : Nat} {nm : ByteArray} (h : Cmd w C nm) (j : Nat) (hj : j ≠ 1) (v : Value) (hv : fieldOk j v) : Cmd (w.setCell ⟨C, j, none⟩ v) C nm := by
  obtain ⟨cs, h1, h2, h3, h4⟩ := h
  refine ⟨_, h1.set j v, by simpa using h2, ?_, fields_set h4 j v hv⟩
  rw [Array.getElem?_setIfInBounds_ne hj]
  exact h3
theorem Cmd.rename {w : World} {C : Nat} {nm : ByteArray} (h : Cmd w C nm) (s : ByteArray) : Cmd (w.setCell ⟨C, 1, none⟩ (.string s)) C s := by
  obtain ⟨cs, h1, h2, h3, h4⟩ := h
  refine ⟨_, h1.set 1 _, by simpa using h2, ?_, fields_set h4 1 _ (by simp [fieldOk])⟩
  simp [h2]

/-- the reader and the command, what was there before aside -/
structure Both (R C : Nat) (nm : ByteArray) (w w' : World) : Prop where
  reads : Reads w' R
  cmd : Cmd w' C nm
  touch : Touch [R, C] w w'
theorem Both.store {R C : Nat} {nm : ByteArray} {w w' : World} (h : Both R C nm w w') (hRC : R < C) (j : Nat) (hj : j ≠ 1) (v : Value) (hv : fieldOk j v := by simp [fieldOk]) : Both R C nm w (w'.setCell ⟨C, j, none⟩ v) :=
  ⟨h.reads.touch (S := [C]) ((Touch.refl _ _).setCell (.inl (by simp)) _) (by simpa using hRC), h.cmd.set j hj v hv, h.touch.setCell (.inl (by simp)) _⟩
theorem Both.rename {R C : Nat} {nm : ByteArray} {w w' : World} (h : Both R C nm w w') (hRC : R < C) (s : ByteArray) : Both R C s w (w'.setCell ⟨C, 1, none⟩ (.string s)) :=
  ⟨h.reads.touch (S := [C]) ((Touch.refl _ _).setCell (.inl (by simp)) _) (by simpa using hRC), h.cmd.rename s, h.touch.setCell (.inl (by simp)) _⟩
theorem Both.bad {R C : Nat} {nm : ByteArray} {w w' : World} (h : Both R C nm w w') (hRC : R < C) (b : Bool) : Both R C nm w (w'.setCell ⟨R, 1, none⟩ (.bool b)) :=
  ⟨h.reads.bad b, h.cmd.touch (S := [R]) ((Touch.refl _ _).setCell (.inl (by simp)) _) (by simp; omega), h.touch.setCell (.inl (by simp)) _⟩
theorem Both.call {R C : Nat} {nm : ByteArray} {w w' w'' : World} (h : Both R C nm w w') (hRC : R < C) (hr : Reads w'' R) (ht : Touch [R] w' w'') : Both R C nm w w'' :=
  ⟨hr, h.cmd.touch ht (by simp; omega), h.touch.call ht (by simp)⟩
theorem Both.below {R C : Nat} {nm : ByteArray} {w w' w'' : World} (h : Both R C nm w w') (hb : Below w'.heap.size w' w'') : Both R C nm w w'' :=
  ⟨h.reads.below hb, h.cmd.below hb, h.touch.below hb⟩
theorem Both.trans {R C : Nat} {nm nm' : ByteArray} {w w' w'' : World} (h : Both R C nm w w') (k : Both R C nm' w' w'') : Both R C nm' w w'' := ⟨k.reads, k.cmd, h.touch.trans k.touch⟩
theorem Both.glob {R C : Nat} {nm : ByteArray} {w w' : World} (h : Both R C nm w w') (hG : Glob w) (hR : 9 ≤ R) (hRC : R < C) : Glob w' := hG.touch h.touch (by simp; omega)

set_option maxHeartbeats 2000000 in
set_option maxRecDepth 100000 in
theorem message_s {R C : Nat} {nm : ByteArray} {w : World} (h0 : Both R C nm w w) (hRC : R < C) (hG : Glob w) (hR : 9 ≤ R) :
    Calls Tryz.prog 31 #[.pointer (some ⟨R, 0, none⟩), .pointer (some ⟨C, 0, none⟩)] w fun e w' => e = .returned (.tuple #[]) ∧ Both R C nm w w' := by
  go_enter Tryz.func31, Tryz.ntmps31
  go_wp2_with fail
  refine (box_s h0.reads hG hR).mono ?_; rintro e w1 ⟨s, rfl, hr1, ht1⟩
  have h1 := h0.call hRC hr1 ht1
  obtain ⟨x5, hx5⟩ := h1.cmd.cell 5 (by omega)
  have hf5 := h1.cmd.frozen 5
  have h2 := h1.store hRC 5 (by omega) (.string s)
  clear h1 hr1 ht1
  go_wp2_with fail
  refine (next_s h2.reads 3).mono ?_; rintro e w2 ⟨b, rfl, rfl⟩
  clear hx5 hf5
  generalize w1.setCell ⟨C, 5, none⟩ (.string s) = w2 at h2
  go_upto_if 12 with fail
  go_cut [] (fun wx => Both R C nm w wx)
  case first =>
    cases b with
    | true =>
      go_wp2_with fail
      refine (flags_s h2.reads).mono ?_; rintro e w3 ⟨f, rfl, hr3, ht3⟩
      have h3 := h2.call hRC hr3 ht3
      obtain ⟨x8, hx8⟩ := h3.cmd.cell 8 (by omega)
      have hf8 := h3.cmd.frozen 8
      go_wp2_with fail
      go_meet
      exact h3.store hRC 8 (by omega) _
    | false =>
      go_wp2_with fail
      go_meet
      exact h2
  case rest =>
    clear h2
    obtain ⟨ra, rn, rc, bad, hn, hc0, hc1, hf0, hf1⟩ := hcut.reads.cells
    go_upto_if 23 with fail
    go_cut [] (fun wx => Both R C nm w wx)
    case first =>
      by_cases h2 : rn = 2
      · have t2 : ((rn : Int) == 2) = true := by rw [h2]; rfl
        clear h2
        go_wp2_with fail
        refine (take_s hcut.reads 2).mono ?_; rintro e w3 ⟨s3, rfl, hs3, hr3, ht3⟩
        have h3 := hcut.call hRC hr3 ht3
        go_wp2_with fail
        refine (dateparse_any s3 w3 (by omega)).mono ?_; rintro e w4 ⟨rfl, hb4⟩
        have h4 := h3.below hb4
        clear hc0 hc1 hf0 hf1
        obtain ⟨ra, rn, rc, bad, hn, hc0, hc1, hf0, hf1⟩ := h4.reads.cells
        obtain ⟨x11, hx11⟩ := h4.cmd.cell 11 (by omega)
        obtain ⟨x12, hx12⟩ := h4.cmd.cell 12 (by omega)
        have hf11 := h4.cmd.frozen 11
        have hf12 := h4.cmd.frozen 12
        have hRC' : ¬ R = C := by omega
        have hCR' : ¬ C = R := by omega
        obtain ⟨t, ok, hd⟩ : ∃ (t : Int) (ok : Bool), dateV (dateF s3) = .returned (.tuple #[.int .i64 t, .bool ok]) := by
          cases dateF s3 with
          | none => exact ⟨_, _, rfl⟩
          | some t => exact ⟨_, _, rfl⟩
        rw [hd]
        cases bad with
        | true =>
          go_wp2_with fail
          go_meet
          exact ((h4.store hRC 11 (by omega) _).store hRC 12 (by omega) _).bad hRC _
        | false =>
          cases ok with
          | true =>
            go_wp2_with fail
            go_meet
            exact ((h4.store hRC 11 (by omega) _).store hRC 12 (by omega) _).bad hRC _
          | false =>
            go_wp2_with fail
            go_meet
            exact ((h4.store hRC 11 (by omega) _).store hRC 12 (by omega) _).bad hRC _
      · have t2 : ((rn : Int) == 2) = false := beq_eq_false_iff_ne.2 (by omega)
        clear h2
        go_wp2_with fail
        go_meet
        exact hcut
    case rest =>
      clear hc0 hc1 hf0 hf1
      go_wp2_with fail
      refine (take_s hcut.reads 2).mono ?_; rintro e w3 ⟨s3, rfl, hs3, hr3, ht3⟩
      have h3 := hcut.call hRC hr3 ht3
      have hcv := Lib.run_convert_string_bytes (P := Tryz.prog) w3 9 33 5 s3 Tryz.underlying9 Tryz.underlying33 Tryz.underlying5
      have h4 := h3.below (bytesWorld_below w3 5 s3)
      obtain ⟨x13, hx13⟩ := h4.cmd.cell 13 (by omega)
      have hf13 := h4.cmd.frozen 13
      go_wp2
      go_end0
      exact ⟨rfl, h4.store hRC 13 (by omega) _⟩
end Go.Proofs.YtilcfpaimhiofaaGreatDoor
