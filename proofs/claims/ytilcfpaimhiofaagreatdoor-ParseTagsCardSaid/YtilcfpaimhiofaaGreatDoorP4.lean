/- parse's reader: item ends. -/
import Derived.Test.YtilcfpaimhiofaaGreatDoorP3
namespace Go.Proofs.YtilcfpaimhiofaaGreatDoor
open Go.RowKit

def itemNames : List ByteArray := [⟨#[85, 73, 68]⟩, ⟨#[70, 76, 65, 71, 83]⟩, ⟨#[73, 78, 84, 69, 82, 78, 65, 76, 68, 65, 84, 69]⟩, ⟨#[82, 70, 67, 56, 50, 50, 46, 83, 73, 90, 69]⟩, ⟨#[69, 78, 86, 69, 76, 79, 80, 69]⟩, ⟨#[66, 79, 68, 89, 91, 93]⟩, ⟨#[66, 79, 68, 89, 91, 72, 69, 65, 68, 69, 82, 93]⟩, ⟨#[66, 79, 68, 89, 91, 84, 69, 88, 84, 93]⟩]

theorem idxFromS_bd (x : ByteArray) : ∀ (zs : List ByteArray) (i : Nat), -1 ≤ Lib.idxFromS zs x i ∧ Lib.idxFromS zs x i ≤ i + zs.length
  | [], i => by simp [Lib.idxFromS]
  | z :: zs, i => by
    have ih := idxFromS_bd x zs (i + 1)
    simp only [Lib.idxFromS, List.length_cons]
    split <;> omega
theorem idxOfS_bd (zs : List ByteArray) (x : ByteArray) : -1 ≤ Lib.idxOfS zs x ∧ Lib.idxOfS zs x ≤ zs.length := by
  have := idxFromS_bd x zs 0
  simpa [Lib.idxOfS] using this
theorem names_at {w : World} {N : Nat} {ns : List ByteArray} {t : TypeId} (h : Blk w N (ns.map Value.string).toArray t) : ∀ j, j < ns.length → w.cell? ⟨N, 0 + j, none⟩ = some (.string (ns.getD j ByteArray.empty)) := by
  intro j hj
  rw [Nat.zero_add, h.cell j]
  simp [List.getD, hj]
/-- slices.Index of names in a row of the call's own -/
theorem index_s {w : World} {N n c : Nat} {ns : List ByteArray} {t : TypeId} (h : Blk w N (ns.map Value.string).toArray t) (hn : ns.length = n) (hl : n ≤ 100) (x : ByteArray) :
    Calls Tryz.prog 82 #[.slice (some ⟨N, 0, none⟩) n c, .string x] w fun e w' => ∃ k : Int, e = .returned (.int .i64 k) ∧ -1 ≤ k ∧ k ≤ n ∧ w' = w := by
  refine (Tryz.slices_Index_string N 0 n c ns x w (by omega) (by omega) (names_at h)).mono fun e w' h => ?_
  have hb := idxOfS_bd (ns.take n) x
  rw [List.length_take] at hb
  exact ⟨_, h.1, hb.1, by omega, h.2⟩

set_option maxHeartbeats 1000000 in
set_option maxRecDepth 100000 in
theorem item_s (s : ByteArray) (w : World) (hs : s.size ≤ 4294967000) :
    Calls Tryz.prog 78 #[.string s] w fun e w' => ∃ (k : Int) (p : Bool), e = .returned (.agg #[.int .i64 k, .bool p]) ∧ Below w.heap.size w w' := by
  have hG := great_any s (w.alloc (.cells #[.int .i64 0, .bool false] 117)) (by omega)
  go_enter Tryz.func78, Tryz.ntmps78
  go_wp2_with fail
  refine hG.mono ?_; rintro e w1 ⟨rfl, hb1⟩
  clear hG
  have hg : (⟨(s.data.toList.map upB).toArray⟩ : ByteArray).size ≤ 4294967000 := by rw [size_mk, List.length_map, size_toList]; exact hs
  generalize (⟨(s.data.toList.map upB).toArray⟩ : ByteArray) = g at hg
  go_wp2_with fail
  have hgr : (⟨(Lib.trimPrefix g.data.toList (⟨#[66, 79, 68, 89, 46, 80, 69, 69, 75, 91]⟩ : ByteArray).data.toList).toArray⟩ : ByteArray).size ≤ 4294967000 := by rw [size_mk]; exact Nat.le_trans (trimPrefix_le _ _) (by rw [size_toList]; exact hg)
  have hCP := Tryz.strings_CutPrefix g ⟨#[66, 79, 68, 89, 46, 80, 69, 69, 75, 91]⟩ ((w1.alloc (.cells (itemNames.map Value.string).toArray 9)).alloc (.cells #[.int .i64 0, .bool false] 117))
  generalize (⟨(Lib.trimPrefix g.data.toList (⟨#[66, 79, 68, 89, 46, 80, 69, 69, 75, 91]⟩ : ByteArray).data.toList).toArray⟩ : ByteArray) = gr at hCP hgr
  generalize Lib.hasPrefix g.data.toList (⟨#[66, 79, 68, 89, 46, 80, 69, 69, 75, 91]⟩ : ByteArray).data.toList = has at hCP
  refine hCP.mono ?_; rintro e w2 ⟨rfl, hw2⟩
  clear hCP
  have hC0 : Blk (w.alloc (.cells #[.int .i64 0, .bool false] 117)) w.heap.size #[.int .i64 0, .bool false] 117 := Blk.new _ _ _
  have hsz : w.heap.size < w1.heap.size := by have := hb1.size; simp at this; omega
  have hBN : Blk w2 w1.heap.size (itemNames.map Value.string).toArray 9 := by rw [hw2]; exact (Blk.new _ _ _).touch ((Touch.refl [] _).alloc _) (by simp)
  have hBI : Blk w2 (w1.heap.size + 1) #[.int .i64 0, .bool false] 117 := by rw [hw2]; exact blk_two _ _ _ _
  have hBC : Blk w2 w.heap.size #[.int .i64 0, .bool false] 117 := by rw [hw2]; exact (hC0.below hb1).touch (((Touch.refl [] _).alloc _).alloc _) (by simp)
  have ht2 : Touch [] w w2 := by rw [hw2]; exact ((((Touch.refl [] w).alloc _).below hb1).alloc _).alloc _
  clear hw2 hb1 hC0
  generalize w1.heap.size = N at hBN hBI hsz
  obtain ⟨C, hC⟩ : ∃ C, w.heap.size = C := ⟨_, rfl⟩
  rw [hC] at hBC hsz
  rw [hC]
  have hCI : ¬ C = N + 1 := by omega
  have hIC : ¬ N + 1 = C := by omega
  have hi1 : w2.cell? ⟨N + 1, 1, none⟩ = some (.bool false) := hBI.cell 1
  have hf1 : w2.frozen? ⟨N + 1, 1, none⟩ = false := hBI.frozen 1
  go_upto_if 16 with fail
  go_cut [0] (fun gv wx => ∃ (s' : ByteArray) (p : Bool), gv = .string s' ∧ Blk wx N (itemNames.map Value.string).toArray 9 ∧ Blk wx (N + 1) #[.int .i64 0, .bool p] 117 ∧ Blk wx C #[.int .i64 0, .bool false] 117 ∧ Touch [] w wx)
  case first =>
    cases has with
    | true =>
      go_wp2_with fail
      go_meet
      exact ⟨_, true, rfl, hBN.touch (S := [N + 1]) ((Touch.refl _ _).setCell (.inl (by simp)) _) (by simp), hBI.set 1 _, hBC.touch (S := [N + 1]) ((Touch.refl _ _).setCell (.inl (by simp)) _) (by simpa using hCI), ht2.setCell (.inr (by show _ ≤ N + 1; omega)) _⟩
    | false =>
      go_wp2_with fail
      go_meet
      exact ⟨_, false, rfl, hBN, hBI, hBC, ht2⟩
  case rest =>
    obtain ⟨s', p, rfl, hBN, hBI, hBC, ht⟩ := hcut
    clear hi1 hf1
    go_wp2_with fail
    refine (index_s (n := 8) hBN rfl (by omega) s').mono ?_
    rintro e w3 ⟨k, rfl, hk0, hk1, rfl⟩
    have hi0 : w3.cell? ⟨N + 1, 0, none⟩ = some (.int .i64 0) := hBI.cell 0
    have hi1 : w3.cell? ⟨N + 1, 1, none⟩ = some (.bool p) := hBI.cell 1
    have hf0 : w3.frozen? ⟨N + 1, 0, none⟩ = false := hBI.frozen 0
    have hc0 : w3.cell? ⟨C, 0, none⟩ = some (.int .i64 0) := hBC.cell 0
    have hc1 : w3.cell? ⟨C, 1, none⟩ = some (.bool false) := hBC.cell 1
    have hg0 : w3.frozen? ⟨C, 0, none⟩ = false := hBC.frozen 0
    have hg1 : w3.frozen? ⟨C, 1, none⟩ = false := hBC.frozen 1
    have ht4 : ∀ x, Touch [] w (w3.setCell ⟨N + 1, 0, none⟩ x) := fun x => ht.setCell (.inr (by show _ ≤ N + 1; omega)) _
    by_cases hz : k + 1 = 0
    · have tz : (k + 1 == 0) = true := by simp [hz]
      go_wp2_with fail
      have hBf : Blk (((w3.setCell ⟨N + 1, 0, none⟩ (.int .i64 0)).setCell ⟨C, 0, none⟩ (.int .i64 0)).setCell ⟨C, 1, none⟩ (.bool false)) C #[.int .i64 0, .bool false] 117 := ((hBC.touch (S := [N + 1]) ((Touch.refl _ _).setCell (.inl (by simp)) _) (by simpa using hCI)).set 0 _).set 1 _
      have htf : Touch [] w (((w3.setCell ⟨N + 1, 0, none⟩ (.int .i64 0)).setCell ⟨C, 0, none⟩ (.int .i64 0)).setCell ⟨C, 1, none⟩ (.bool false)) := ((ht4 _).setCell (p := ⟨C, 0, none⟩) (.inr (by show _ ≤ C; omega)) _).setCell (p := ⟨C, 1, none⟩) (.inr (by show _ ≤ C; omega)) _
      have hr0 := hBf.cell 0
      have hr1 := hBf.cell 1
      simp only [List.getElem?_toArray, List.getElem?_cons_zero, List.getElem?_cons_succ] at hr0 hr1
      generalize (((w3.setCell ⟨N + 1, 0, none⟩ (.int .i64 0)).setCell ⟨C, 0, none⟩ (.int .i64 0)).setCell ⟨C, 1, none⟩ (.bool false)) = wf at hr0 hr1 htf
      exact bodyPost_ret (v := .agg #[.int .i64 0, .bool false]) (by simp [results, Tryz.results78, go_sem, hr0, hr1]) rfl ⟨_, _, rfl, hC ▸ htf.toBelow⟩
    · have tz : (k + 1 == 0) = false := by simp [hz]
      go_wp2_with fail
      have hBf : Blk (((w3.setCell ⟨N + 1, 0, none⟩ (.int .i64 (k + 1))).setCell ⟨C, 0, none⟩ (.int .i64 (k + 1))).setCell ⟨C, 1, none⟩ (.bool p)) C #[.int .i64 (k + 1), .bool p] 117 := ((hBC.touch (S := [N + 1]) ((Touch.refl _ _).setCell (.inl (by simp)) _) (by simpa using hCI)).set 0 _).set 1 _
      have htf : Touch [] w (((w3.setCell ⟨N + 1, 0, none⟩ (.int .i64 (k + 1))).setCell ⟨C, 0, none⟩ (.int .i64 (k + 1))).setCell ⟨C, 1, none⟩ (.bool p)) := ((ht4 _).setCell (p := ⟨C, 0, none⟩) (.inr (by show _ ≤ C; omega)) _).setCell (p := ⟨C, 1, none⟩) (.inr (by show _ ≤ C; omega)) _
      have hr0 := hBf.cell 0
      have hr1 := hBf.cell 1
      simp only [List.getElem?_toArray, List.getElem?_cons_zero, List.getElem?_cons_succ] at hr0 hr1
      generalize (((w3.setCell ⟨N + 1, 0, none⟩ (.int .i64 (k + 1))).setCell ⟨C, 0, none⟩ (.int .i64 (k + 1))).setCell ⟨C, 1, none⟩ (.bool p)) = wf at hr0 hr1 htf
      exact bodyPost_ret (v := .agg #[.int .i64 (k + 1), .bool p]) (by simp [results, Tryz.results78, go_sem, hr0, hr1]) rfl ⟨_, _, rfl, hC ▸ htf.toBelow⟩
end Go.Proofs.YtilcfpaimhiofaaGreatDoor
