/- parse's reader: keys ends. -/
import Derived.Test.YtilcfpaimhiofaaGreatDoorP3
import Derived.Lib.LazyBuf
namespace Go.Proofs.YtilcfpaimhiofaaGreatDoor
open Go.RowKit

theorem tokCells_cell {w : World} {b off : Nat} {ts : List Tok} (hc : ∀ j (h : j < ts.length), w.cell? ⟨b, off + 2 * j, none⟩ = some (.int .i64 ts[j].kind) ∧ w.cell? ⟨b, off + 2 * j + 1, none⟩ = some (.string ⟨ts[j].text.toArray⟩)) :
    ∀ j u, (tokCells ts)[j]? = some u → w.cell? ((⟨b, off, none⟩ : Addr).add j) = some u := by
  intro j u hu
  have hj : j < ts.length * 2 := by rw [← tokCells_length]; exact (List.getElem?_eq_some_iff.1 hu).1
  have hadd : ((⟨b, off, none⟩ : Addr).add j) = ⟨b, off + j, none⟩ := by unfold Addr.add; split <;> simp_all
  rw [hadd]
  have hat := tokCells_at ts (j / 2) (by omega)
  have hcj := hc (j / 2) (by omega)
  rcases Nat.mod_two_eq_zero_or_one j with h | h
  · have e : j = 2 * (j / 2) := by omega
    rw [e] at hu ⊢
    rw [hat.1] at hu
    rw [← hu]; exact hcj.1
  · have e : j = 2 * (j / 2) + 1 := by omega
    rw [e] at hu ⊢
    rw [hat.2] at hu
    rw [← hu]; exact hcj.2
theorem tokCells_one (ts : List Tok) : ∀ u ∈ tokCells ts, u.oneCell' = true := by
  induction ts with
  | nil => simp [tokCells]
  | cons t r ih =>
    intro u hu
    rw [tokCells_cons] at hu
    rcases List.mem_cons.1 hu with rfl | hu
    · rfl
    rcases List.mem_cons.1 hu with rfl | hu
    · rfl
    · exact ih u hu

set_option maxHeartbeats 1000000 in
set_option maxRecDepth 100000 in
theorem clone_s (v : Value) (ts : List Tok) (w : World) (hv : TokAt w v ts) (hl : ts.length ≤ 200) :
    Calls Tryz.prog 24 #[v] w fun e w' => ∃ v', e = .returned v' ∧ OwnT w' w.heap.size v' ts ∧ Below w.heap.size w w' := by
  rcases hv with ⟨rfl, c, rfl⟩ | ⟨b, off, cap, rfl, hlc, hm, hc⟩
  · have hq : ∀ W, (binOp .eql 26 (.slice none 0 c) (.slice none 0 0)).run Tryz.prog W = .ok (.bool true) W := fun W => run_eql_slice_nil W _ _ none 0 c Tryz.underlying26
    go_enter Tryz.func24, Tryz.ntmps24
    go_wp2
    go_ret
    exact ⟨_, rfl, OwnT.nil _ _, Below.refl _ _⟩
  · have hq : ∀ W n, (binOp .eql 26 (.slice (some ⟨b, off, none⟩) n cap) (.slice none 0 0)).run Tryz.prog W = .ok (.bool false) W := fun W n => run_eql_slice_nil W _ _ (some ⟨b, off, none⟩) n cap Tryz.underlying26
    have hcells := tokCells_cell hc
    obtain ⟨i0, hi, hz0, hz1, hz2⟩ := info_parts info_tok
    go_enter Tryz.func24, Tryz.ntmps24
    have hown : (w.alloc (.cells #[] 44)).ownsRow w.heap.size 44 2 (.slice (some ⟨w.heap.size, 0, none⟩) 0 0) 0 [] :=
      ⟨rfl, .inr ⟨w.heap.size, 0, #[], rfl, Nat.le_refl _, Blk.new w #[] 44, Nat.le_refl _, Nat.zero_le _, rfl, rfl⟩⟩
    go_wp2_with (at_builtin; refine wpList_append_own _ rfl _ _ 26 rfl w.heap.size 44 i0 (.agg #[.int .i64 0, .string ⟨#[]⟩]) 2 24 Tryz.underlying26 hi hz0 hz1 hz2 rfl (by decide) _ 0 [] rfl hown ⟨b, off, none⟩ ts.length cap (tokCells ts) rfl ?h1 ?h2 ?h3 ?h4 ?h5 ?h6 ?h7)
    case h1 => exact tokCells_length ts
    case h2 => intro j u hu; exact (Touch.refl [] w).alloc _ |>.keeps (hcells j u hu) (by simp)
    case h3 => exact tokCells_one ts
    case h4 => unfold maxLen; omega
    case h5 => omega
    case h6 => simp
    case h7 =>
      intro v' w' hown' hg _
      go_wp2
      go_ret
      refine ⟨_, rfl, ?_, ((Touch.refl [] w).alloc _ |>.grown hg fun k hk => ?_).toBelow⟩
      · unfold OwnT
        simpa using hown'
      · simp [Value.ownBlock] at hk; right; omega

set_option maxHeartbeats 1000000 in
set_option maxRecDepth 100000 in
theorem keys_s {R : Nat} {w : World} (hr : Reads w R) :
    Calls Tryz.prog 53 #[.pointer (some ⟨R, 0, none⟩)] w fun e w' => ∃ a n c, e = .returned (.slice a n c) ∧ Reads w' R ∧ Touch [R] w w' := by
  obtain ⟨ts, bad, v, hB, hT, hlt, hts, hsz⟩ := hr
  have hc0 : w.cell? ⟨R, 0, none⟩ = some v := hB.cell 0
  go_enter Tryz.func53, Tryz.ntmps53
  go_wp2_with fail
  refine (clone_s v ts w hT hts).mono ?_; rintro e w1 ⟨v', rfl, hown, hb⟩
  have hB1 := hB.below hb
  obtain ⟨a, c, rfl⟩ := hown.shape
  have hd0 : w1.cell? ⟨R, 0, none⟩ = some v := hB1.cell 0
  have hd1 : w1.cell? ⟨R, 1, none⟩ = some (.bool bad) := hB1.cell 1
  have hf0 : w1.frozen? ⟨R, 0, none⟩ = false := hB1.frozen 0
  have hf1 : w1.frozen? ⟨R, 1, none⟩ = false := hB1.frozen 1
  have ht1 : Touch [R] w w1 := (Touch.refl [R] w).below hb
  have hfin : ∀ x, Reads ((w1.setCell ⟨R, 1, none⟩ (.bool x)).setCell ⟨R, 0, none⟩ (.slice none 0 0)) R := fun x =>
    ⟨[], x, .slice none 0 0, (hB1.set 1 _).set 0 _, .inl ⟨rfl, 0, rfl⟩, (fun b off n c e => by cases e), by simp, by simp⟩
  have htf : ∀ x, Touch [R] w ((w1.setCell ⟨R, 1, none⟩ (.bool x)).setCell ⟨R, 0, none⟩ (.slice none 0 0)) := fun x =>
    (ht1.setCell (p := ⟨R, 1, none⟩) (.inl (by simp)) _).setCell (p := ⟨R, 0, none⟩) (.inl (by simp)) _
  cases bad with
  | true =>
    go_wp2
    go_ret
    exact ⟨_, _, _, rfl, hfin _, htf _⟩
  | false =>
    go_wp2
    go_ret
    exact ⟨_, _, _, rfl, hfin _, htf _⟩
end Go.Proofs.YtilcfpaimhiofaaGreatDoor
