/- parse's reader: store and numbered end. -/
import Derived.Test.YtilcfpaimhiofaaGreatDoorP8
namespace Go.Proofs.YtilcfpaimhiofaaGreatDoor
open Go.RowKit

theorem take_n {R N : Nat} {w : World} (hr : Reads w R) (a : Int) (hN : N = w.heap.size) :
    Calls Tryz.prog 18 #[.pointer (some ⟨R, 0, none⟩), .slice (some ⟨N, 0, none⟩) 1 1] (w.alloc (.cells #[.int .i64 a] 3)) (TakeS R w) := by
  rw [hN]; exact take_s hr a

def howNames : List ByteArray := [⟨#[70, 76, 65, 71, 83]⟩, ⟨#[43, 70, 76, 65, 71, 83]⟩, ⟨#[45, 70, 76, 65, 71, 83]⟩]

set_option maxHeartbeats 2000000 in
set_option maxRecDepth 100000 in
theorem store_s {R C : Nat} {nm : ByteArray} {w : World} (h0 : Both R C nm w w) (hRC : R < C) (hG : Glob w) (hR : 9 ≤ R) :
    Calls Tryz.prog 52 #[.pointer (some ⟨R, 0, none⟩), .pointer (some ⟨C, 0, none⟩)] w fun e w' => e = .returned (.tuple #[]) ∧ Both R C nm w w' := by
  go_enter Tryz.func52, Tryz.ntmps52
  go_wp2_with fail
  refine (set_s h0.reads hG hR).mono ?_; rintro e w1 ⟨va, vn, vc, rfl, hr1, ht1⟩
  have h1 := h0.call hRC hr1 ht1
  obtain ⟨x14, hx14⟩ := h1.cmd.cell 14 (by omega)
  have hf14 := h1.cmd.frozen 14
  have h2 := h1.store hRC 14 (by omega) (.slice va vn vc)
  clear h1 hr1 ht1
  go_wp2_with fail
  refine (take_n h2.reads 1 (N := w1.heap.size) (by simp)).mono ?_; rintro e w2 ⟨s, rfl, hs, hr2, ht2⟩
  have h3 := h2.call hRC hr2 ht2
  clear hx14 hf14 h2 hr2 ht2
  go_wp2_with fail
  refine (great_any s w2 (by omega)).mono ?_; rintro e w3 ⟨rfl, hb3⟩
  have hg : (⟨(s.data.toList.map upB).toArray⟩ : ByteArray).size ≤ 4294967000 := by rw [size_mk, List.length_map, size_toList]; exact hs
  have h4 := h3.below hb3
  clear h3 hb3
  generalize (⟨(s.data.toList.map upB).toArray⟩ : ByteArray) = g at hg
  go_wp2_with fail
  have hCS := Tryz.strings_CutSuffix g ⟨#[46, 83, 73, 76, 69, 78, 84]⟩ w3 (by omega)
  generalize (⟨(Lib.trimSuffix g.data.toList (⟨#[46, 83, 73, 76, 69, 78, 84]⟩ : ByteArray).data.toList).toArray⟩ : ByteArray) = gs at hCS
  generalize Lib.hasSuffix g.data.toList (⟨#[46, 83, 73, 76, 69, 78, 84]⟩ : ByteArray).data.toList = sil at hCS
  refine hCS.mono ?_; rintro e w4 ⟨rfl, rfl⟩
  clear hCS
  obtain ⟨x10, hx10⟩ := h4.cmd.cell 10 (by omega)
  have hf10 := h4.cmd.frozen 10
  have h5 := h4.store hRC 10 (by omega) (.bool sil)
  have h6 : Both R C nm w ((w4.setCell ⟨C, 10, none⟩ (.bool sil)).alloc (.cells (howNames.map Value.string).toArray 9)) := h5.below ((Below.refl _ _).alloc (Nat.le_refl _) _)
  have hBN : Blk ((w4.setCell ⟨C, 10, none⟩ (.bool sil)).alloc (.cells (howNames.map Value.string).toArray 9)) w4.heap.size (howNames.map Value.string).toArray 9 := by
    have := Blk.new (w4.setCell ⟨C, 10, none⟩ (.bool sil)) (howNames.map Value.string).toArray 9
    simpa using this
  clear h4 h5
  go_wp2_with fail
  refine (index_s (n := 3) hBN rfl (by omega) gs).mono ?_; rintro e w5 ⟨k, rfl, hk0, hk1, rfl⟩
  clear hx10 hf10 hBN
  generalize (w4.setCell ⟨C, 10, none⟩ (.bool sil)).alloc (.cells (howNames.map Value.string).toArray 9) = w5 at h6
  obtain ⟨x9, hx9⟩ := h6.cmd.cell 9 (by omega)
  have hf9 := h6.cmd.frozen 9
  have h7 := h6.store hRC 9 (by omega) (.int .i64 k)
  obtain ⟨ra, rn, rc, bad, hn, hc0, hc1, hf0, hf1⟩ := h6.reads.cells
  have hRC' : ¬ R = C := by omega
  have hCR' : ¬ C = R := by omega
  go_upto_region 4 with fail
  go_cut [] (fun wx => Both R C nm w wx)
  case first =>
    cases bad with
    | true =>
      go_wp2_with fail
      go_meet
      exact h7.bad hRC _
    | false =>
      go_wp2_with fail
      go_meet
      exact h7.bad hRC _
  case rest =>
    clear hx9 hf9 hc0 hc1 hf0 hf1 h6 h7
    go_wp2_with fail
    refine (flags_s hcut.reads).mono ?_; rintro e w6 ⟨f, rfl, hr6, ht6⟩
    have h8 := hcut.call hRC hr6 ht6
    obtain ⟨x8, hx8⟩ := h8.cmd.cell 8 (by omega)
    have hf8 := h8.cmd.frozen 8
    go_wp2
    go_end0
    exact ⟨rfl, h8.store hRC 8 (by omega) _⟩

end Go.Proofs.YtilcfpaimhiofaaGreatDoor
