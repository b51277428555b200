/- parse's reader: set and flags end. -/
import Derived.Test.YtilcfpaimhiofaaGreatDoorP2
import Derived.Test.YtilcfpaimhiofaaGreatDoorFlag2
namespace Go.Proofs.YtilcfpaimhiofaaGreatDoor
open Go.RowKit

set_option maxHeartbeats 1000000 in
set_option maxRecDepth 100000 in
theorem set_s {R : Nat} {w : World} (hr : Reads w R) (hG : Glob w) (hR : 9 ≤ R) :
    Calls Tryz.prog 32 #[.pointer (some ⟨R, 0, none⟩)] w fun e w' => ∃ a n c, e = .returned (.slice a n c) ∧ Reads w' R ∧ Touch [R] w w' := by
  go_enter Tryz.func32, Tryz.ntmps32
  go_wp2_with fail
  refine (take_s hr 1).mono ?_; rintro e w1 ⟨s, rfl, hs, hr1, ht1⟩
  have hG1 := hG.touch ht1 (by simp; omega)
  go_wp2_with fail
  refine (seqparse_any s w1 hG1 (by omega)).mono ?_; rintro e w2 ⟨v, ok, rfl, hp, hb⟩
  obtain ⟨va, vn, vc, rfl⟩ : ∃ a n c, v = .slice a n c := by
    cases hs : setF s with
    | none => rw [hs] at hp; exact ⟨_, _, _, hp.1⟩
    | some l =>
      rw [hs] at hp
      obtain ⟨a, c, h⟩ := OwnG.shape hp.1
      exact ⟨_, _, _, h⟩
  clear hp
  have hr2 := hr1.below hb
  have ht2 := ht1.below hb
  obtain ⟨a, n, c, bad, hn, hc0, hc1, hf0, hf1⟩ := hr2.cells
  cases bad with
  | true =>
    go_wp2
    go_ret
    exact ⟨_, _, _, rfl, hr2.bad _, ht2.setCell (.inl (by simp)) _⟩
  | false =>
    cases ok with
    | true =>
      go_wp2
      go_ret
      exact ⟨_, _, _, rfl, hr2.bad _, ht2.setCell (.inl (by simp)) _⟩
    | false =>
      go_wp2
      go_ret
      exact ⟨_, _, _, rfl, hr2.bad _, ht2.setCell (.inl (by simp)) _⟩

theorem info_string : (Tryz.prog.info? 9).map (fun i => (i.zero, i.size, i.bytes)) = some (some (.string ⟨#[]⟩), 1, 16) := by kernel_rfl
theorem str_one : ∀ a : ByteArray, ∀ u ∈ strCells a, u.oneCell' = true := by intro a u hu; simp [strCells] at hu; rw [hu]; rfl
theorem next_yes {k : Int} {ts : List Tok} {bad : Bool} (h : nextF k ts bad = true) : ∃ tt r, ts = ⟨k, tt⟩ :: r ∧ bad = false := by
  cases ts with
  | nil => simp [nextF] at h
  | cons t r =>
    obtain ⟨tk, tt⟩ := t
    simp [nextF] at h
    exact ⟨tt, r, by rw [h.2], h.1⟩

set_option maxHeartbeats 2000000 in
set_option maxRecDepth 100000 in
theorem flags_s {R : Nat} {w : World} (hr : Reads w R) :
    Calls Tryz.prog 48 #[.pointer (some ⟨R, 0, none⟩)] w fun e w' => ∃ f : Int, e = .returned (.int .i64 f) ∧ Reads w' R ∧ Touch [R] w w' := by
  have hRw := hr.lt
  go_enter Tryz.func48, Tryz.ntmps48
  go_wp2_with fail
  refine (take_s hr 3).mono ?_; rintro e w1 ⟨s, rfl, hs, hr1, ht1⟩
  clear hs hr
  go_wp2
  go_loopw [3] (fun lv wr => ∃ (ts : List Tok) (bad : Bool) (ls : List ByteArray), ReadAt wr R ts bad ∧ OwnG strCells 1 wr w.heap.size 9 lv ls ∧ ls.length + ts.length ≤ 200 ∧ (∀ s ∈ ls, s.size ≤ 4294967000) ∧ Touch [R] w wr) (fun lv _ => 200 - sliceLen lv)
  case atStart =>
    obtain ⟨ts, bad, h⟩ := hr1
    exact ⟨ts, bad, [], h, OwnG.nil, by obtain ⟨_, _, _, _, h5⟩ := h; simpa using h5.1, by simp, ht1⟩
  case round =>
    obtain ⟨ts, bad, ls, hrd, hown, hlen, hsz, ht⟩ := hrel
    obtain ⟨la, lc, rfl⟩ := hown.shape
    go_wp2_with fail
    refine (next_any R 1 ts bad wr hrd).mono ?_; rintro e w2 ⟨rfl, rfl⟩
    cases hnx : nextF 1 ts bad with
    | true =>
      obtain ⟨tt, r, rfl, rfl⟩ := next_yes hnx
      clear hnx
      have htt : tt.length ≤ 4294967000 := by obtain ⟨_, _, _, _, h5⟩ := hrd; exact h5.2 ⟨1, tt⟩ (by simp)
      have hT := take_one R 1 _ _ _ hrd
      have hF : takeF [1] (⟨1, tt⟩ :: r) false = (⟨tt.toArray⟩, r, false) := by simp [takeF]
      rw [hF] at hT
      clear hF
      go_wp2_with fail
      refine hT.mono ?_; rintro e w3 ⟨rfl, hrd3, ht3⟩
      have hown3 := hown.touch ht3 (fun k hk => by have := (hown.lt k hk).1; simp; omega)
      have ht4 := ht.trans ht3
      clear hT hrd hown ht ht3
      have hsl : ls.length + 1 ≤ 200 := by simp at hlen; omega
      go_wp2_with (at_builtin; refine app_g (f := strCells) (size := 1) (fun _ => rfl) str_one 16 (.string ⟨#[]⟩) info_string rfl (by decide) (by decide) Tryz.underlying103 rfl _ _ rfl ⟨tt.toArray⟩ rfl (hown3.alloc _) w3.heap.size rfl ?d1 ?d2 ?d3 ?md)
      case d1 => exact Blk.new _ _ _
      case d2 => omega
      case d3 => have := ht4.size; simp; omega
      case md =>
        intro v' w4 hown4 hg4
        have ht5 : Touch [R] w w4 := (ht4.alloc _).grown hg4 (fun k hk => .inr (hown3.lt k hk).1)
        have hrd4 : ReadAt w4 R r false := (hrd3.touch ((Touch.refl [] _).alloc _) (by simp)).touch (S := (Value.slice la ls.length lc).ownBlock.toList) ((Touch.refl _ _).grown hg4 (fun k hk => .inl (by simp [hk]))) (fun k hk => by have := (hown3.lt k (by simpa using hk)).1; omega)
        clear hg4 hown3 hrd3 ht4
        have hsv : sliceLen v' = ls.length + 1 := by obtain ⟨a, c, h⟩ := hown4.shape; rw [h]; simp [sliceLen]
        go_wp2
        go_roundw
        case rel => exact ⟨r, false, ls ++ [⟨tt.toArray⟩], hrd4, hown4, by simp at hlen ⊢; omega, by intro s hs; rcases List.mem_append.1 hs with h | h; exact hsz s h; simp at h; rw [h, size_mk]; exact htt, ht5⟩
        case measure => rw [hsv]; simp [sliceLen]; omega
    | false =>
      go_wp2_with fail
      refine (take_s ⟨ts, bad, hrd⟩ 4).mono ?_; rintro e w3 ⟨s, rfl, hs, hr3, ht3⟩
      have hown3 := hown.touch ht3 (fun k hk => by have := (hown.lt k hk).1; simp; omega)
      have ht4 := ht.trans ht3
      go_wp2_with fail
      refine (flagparse_any _ ls w3 (OwnG.at (fun _ => rfl) hown3) (fun s h => by have := hsz s h; omega) (by omega)).mono ?_; rintro e w5 ⟨rfl, hb⟩
      have hr5 := hr3.below hb
      have ht5 := ht4.below hb
      clear hown3 hown ht3 ht4 hr3 ht hb hrd
      obtain ⟨a, n, c, bad', hn, hc0, hc1, hf0, hf1⟩ := hr5.cells
      cases flagsL ls 0 with
      | none =>
        unfold flagsV
        cases bad' with
        | true =>
          go_wp2
          go_ret
          exact ⟨_, rfl, hr5.bad _, ht5.setCell (.inl (by simp)) _⟩
        | false =>
          go_wp2
          go_ret
          exact ⟨_, rfl, hr5.bad _, ht5.setCell (.inl (by simp)) _⟩
      | some f =>
        unfold flagsV
        cases bad' with
        | true =>
          go_wp2
          go_ret
          exact ⟨_, rfl, hr5.bad _, ht5.setCell (.inl (by simp)) _⟩
        | false =>
          go_wp2
          go_ret
          exact ⟨_, rfl, hr5.bad _, ht5.setCell (.inl (by simp)) _⟩
end Go.Proofs.YtilcfpaimhiofaaGreatDoor
