/- parse's reader: items ends. -/
import Derived.Test.YtilcfpaimhiofaaGreatDoorP4
import Derived.Deep.DeepCutAuto
namespace Go.Proofs.YtilcfpaimhiofaaGreatDoor
open Go.RowKit

def itemCells (x : Int × Bool) : List Value := [.int .i64 x.1, .bool x.2]
theorem item_one : ∀ a : Int × Bool, ∀ u ∈ itemCells a, u.oneCell' = true := by intro a u hu; simp [itemCells] at hu; rcases hu with rfl | rfl <;> rfl
theorem info_item : (Tryz.prog.info? 117).map (fun i => (i.zero, i.size, i.bytes)) = some (some (.agg #[.int .i64 0, .bool false]), 2, 16) := by kernel_rfl

set_option maxHeartbeats 1000000 in
set_option maxRecDepth 100000 in
theorem itemfn_s (k : Int) (p : Bool) (w : World) :
    Calls Tryz.prog 80 #[.agg #[.int .i64 k, .bool p]] w fun e w' => ∃ b, e = .returned (.bool b) ∧ Below w.heap.size w w' := by
  go_enter Tryz.func80, Tryz.ntmps80
  go_wp2
  go_ret
  exact ⟨_, rfl, (Below.refl _ _).alloc (Nat.le_refl _) _⟩

set_option maxHeartbeats 1000000 in
set_option maxRecDepth 100000 in
theorem itemidx_s (v : Value) (ls : List (Int × Bool)) (w : World) (hv : RowAt itemCells 2 w v ls) (hl : ls.length ≤ 1000) :
    Calls Tryz.prog 122 #[v, .func (.func 80) #[] #[]] w fun e w' => ∃ z : Int, e = .returned (.int .i64 z) ∧ Below w.heap.size w w' := by
  obtain ⟨va, vc, rfl⟩ := hv.shape
  go_enter Tryz.func122, Tryz.ntmps122
  go_wp2
  go_loopw [8] (fun i wr => ∃ k : Nat, k ≤ ls.length ∧ i = .int .i64 k ∧ Below w.heap.size w wr) (fun i _ => ls.length - (intOf i).toNat)
  case atStart => exact ⟨0, Nat.zero_le _, rfl, Below.refl _ _⟩
  case round =>
    obtain ⟨k, hk, rfl, hb⟩ := hrel
    by_cases hlt : k < ls.length
    · have hvr := hv.below hb
      rcases hvr with ⟨h, _⟩ | ⟨b, off, cap, he, hlc, hm, hc⟩
      · rw [h] at hlt; simp at hlt
      · cases he
        have h0 := hc k hlt 0 (.int .i64 ls[k].1) rfl
        have h1 := hc k hlt 1 (.bool ls[k].2) rfl
        simp only [Nat.add_zero] at h0
        rw [Nat.mul_comm 2 k] at h0 h1
        generalize ls[k].1 = xk at h0
        generalize ls[k].2 = xp at h1
        clear hc hv
        go_wp2_with fail
        refine (itemfn_s xk xp wr).mono ?_; rintro e w1 ⟨q, rfl, hb1⟩
        have hb2 := hb.trans (hb1.mono hb.size)
        cases q with
        | true =>
          go_wp2
          go_ret
          exact ⟨_, rfl, hb2⟩
        | false =>
          go_wp2
          go_roundw
          case rel => exact ⟨k + 1, by omega, by go_num, hb2⟩
          case measure => simp [intOf]; omega
    · go_wp2
      go_ret
      exact ⟨_, rfl, hb⟩

set_option maxHeartbeats 1000000 in
set_option maxRecDepth 100000 in
theorem itemhas_s (v : Value) (ls : List (Int × Bool)) (w : World) (hv : RowAt itemCells 2 w v ls) (hl : ls.length ≤ 1000) :
    Calls Tryz.prog 79 #[v, .func (.func 80) #[] #[]] w fun e w' => ∃ q, e = .returned (.bool q) ∧ Below w.heap.size w w' := by
  go_enter Tryz.func79, Tryz.ntmps79
  go_wp2_with fail
  refine (itemidx_s v ls w hv hl).mono ?_; rintro e w1 ⟨z, rfl, hb⟩
  go_wp2
  go_ret
  exact ⟨_, rfl, hb⟩

set_option maxHeartbeats 2000000 in
set_option maxRecDepth 100000 in
theorem items_s {R : Nat} {w : World} (hr : Reads w R) :
    Calls Tryz.prog 51 #[.pointer (some ⟨R, 0, none⟩)] w fun e w' => ∃ a n c, e = .returned (.slice a n c) ∧ Reads w' R ∧ Touch [R] w w' := by
  have hRw := hr.lt
  go_enter Tryz.func51, Tryz.ntmps51
  go_wp2_with fail
  refine (next_s hr 3).mono ?_; rintro e w0 ⟨q, rfl, rfl⟩
  go_upto_if 6 with fail
  go_cut [3] (fun lv wx => ∃ ls : List (Int × Bool), OwnG itemCells 2 wx w0.heap.size 117 lv ls ∧ ls.length ≤ 201 ∧ Reads wx R ∧ Touch [R] w0 wx)
  case first =>
    cases q with
    | false =>
      go_wp2_with fail
      refine (take_s hr 1).mono ?_; rintro e w1 ⟨s, rfl, hs, hr1, ht1⟩
      go_wp2_with fail
      refine (item_s s w1 hs).mono ?_; rintro e w2 ⟨k, p, rfl, hb⟩
      have hr2 := hr1.below hb
      have ht2 := ht1.below hb
      have hown : OwnG itemCells 2 w2 w0.heap.size 117 (.slice none 0 0) [] := OwnG.nil
      go_wp2_with (at_builtin; refine app_g (f := itemCells) (size := 2) (fun _ => rfl) item_one 16 (.agg #[.int .i64 0, .bool false]) info_item rfl (by decide) (by decide) Tryz.underlying36 rfl _ _ rfl (k, p) rfl (hown.alloc _) w2.heap.size rfl ?e1 ?e2 ?e3 ?me)
      case e1 => exact Blk.new _ _ _
      case e2 => simp
      case e3 => have := ht2.size; simp; omega
      case me =>
        intro v' w4 hown4 hg4
        have ht5 : Touch [R] w0 w4 := (ht2.alloc _).grown hg4 (fun k hk => by simp [Value.ownBlock] at hk)
        have hr4 : Reads w4 R := (hr2.touch ((Touch.refl [] _).alloc _) (by simp)).touch (S := []) ((Touch.refl _ _).grown hg4 (fun k hk => by simp [Value.ownBlock] at hk)) (by simp)
        go_wp2_with fail
        go_meet
        exact ⟨_, hown4, by simp, hr4, ht5⟩
    | true =>
      go_wp2_with fail
      refine (take_s hr 3).mono ?_; rintro e w1 ⟨s, rfl, hs, hr1, ht1⟩
      clear hs
      go_wp2
      go_loopw [3] (fun lv wr => ∃ (ts : List Tok) (bad : Bool) (ls : List (Int × Bool)), ReadAt wr R ts bad ∧ OwnG itemCells 2 wr w0.heap.size 117 lv ls ∧ ls.length + ts.length ≤ 200 ∧ Touch [R] w0 wr) (fun lv _ => 200 - sliceLen lv)
      case atStart =>
        obtain ⟨ts, bad, h⟩ := hr1
        exact ⟨ts, bad, [], h, OwnG.nil, by obtain ⟨_, _, _, _, h5⟩ := h; simpa using h5.1, ht1⟩
      case round =>
        obtain ⟨ts, bad, ls, hrd, hown, hlen, ht⟩ := hrel
        obtain ⟨la, lc, rfl⟩ := hown.shape
        go_wp2_with fail
        refine (next_any R 1 ts bad wr hrd).mono ?_; rintro e w2 ⟨rfl, rfl⟩
        cases hnx : nextF 1 ts bad with
        | true =>
          obtain ⟨tt, r, rfl, rfl⟩ := next_yes hnx
          clear hnx
          have htt : tt.length ≤ 4294967000 := by obtain ⟨_, _, _, _, h5⟩ := hrd; exact h5.2 ⟨1, tt⟩ (by simp)
          have hT := take_one R 1 _ _ _ hrd
          have hF : takeF [1] (⟨1, tt⟩ :: r) false = (⟨tt.toArray⟩, r, false) := by simp [takeF]
          rw [hF] at hT
          clear hF
          go_wp2_with fail
          refine hT.mono ?_; rintro e w3 ⟨rfl, hrd3, ht3⟩
          have hown3 := hown.touch ht3 (fun k hk => by have := (hown.lt k hk).1; simp; omega)
          have ht4 := ht.trans ht3
          clear hT hrd hown ht ht3
          have hsl : ls.length + 1 ≤ 200 := by simp at hlen; omega
          go_wp2_with fail
          refine (item_s ⟨tt.toArray⟩ w3 (by rw [size_mk]; exact htt)).mono ?_; rintro e w5 ⟨k, p, rfl, hb⟩
          have hrd5 : ReadAt w5 R r false := hrd3.below hb
          have hown5 := hown3.below hb
          have ht6 := ht4.below hb
          clear hrd3 hown3 ht4 hb
          go_wp2_with (at_builtin; refine app_g (f := itemCells) (size := 2) (fun _ => rfl) item_one 16 (.agg #[.int .i64 0, .bool false]) info_item rfl (by decide) (by decide) Tryz.underlying36 rfl _ _ rfl (k, p) rfl (hown5.alloc _) w5.heap.size rfl ?g1 ?g2 ?g3 ?mg)
          case g1 => exact Blk.new _ _ _
          case g2 => omega
          case g3 => have := ht6.size; simp; omega
          case mg =>
            intro v' w4 hown4 hg4
            have ht5 : Touch [R] w0 w4 := (ht6.alloc _).grown hg4 (fun k hk => .inr (hown5.lt k hk).1)
            have hrd4 : ReadAt w4 R r false := (hrd5.touch ((Touch.refl [] _).alloc _) (by simp)).touch (S := (Value.slice la ls.length lc).ownBlock.toList) ((Touch.refl _ _).grown hg4 (fun k hk => .inl (by simp [hk]))) (fun k hk => by have := (hown5.lt k (by simpa using hk)).1; omega)
            clear hg4 hown5 hrd5 ht6
            have hsv : sliceLen v' = ls.length + 1 := by obtain ⟨a, c, h⟩ := hown4.shape; rw [h]; simp [sliceLen]
            go_wp2
            go_roundw
            case rel => exact ⟨r, false, ls ++ [(k, p)], hrd4, hown4, by simp at hlen ⊢; omega, ht5⟩
            case measure => rw [hsv]; simp [sliceLen]; omega
        | false =>
          go_wp2_with fail
          refine (take_s ⟨ts, bad, hrd⟩ 4).mono ?_; rintro e w3 ⟨s, rfl, hs, hr3, ht3⟩
          have hown3 := hown.touch ht3 (fun k hk => by have := (hown.lt k hk).1; simp; omega)
          have ht4 := ht.trans ht3
          go_wp2_with fail
          go_meet
          exact ⟨_, hown3, by omega, hr3, ht4⟩
  case rest =>
    obtain ⟨ls, hown, hl, hr1, ht1⟩ := hcut
    obtain ⟨la, lc, rfl⟩ := hown.shape
    have hr2 := hr1
    obtain ⟨a, n, c, bad', hn, hc0, hc1, hf0, hf1⟩ := hr1.cells
    by_cases h1 : ls.length < 1
    · go_wp2
      go_ret
      exact ⟨⟨_, _, _, rfl⟩, hr2.bad _, ht1.setCell (p := ⟨R, 1, none⟩) (.inl (by simp)) _⟩
    by_cases h20 : 20 < ls.length
    · go_wp2
      go_ret
      exact ⟨⟨_, _, _, rfl⟩, hr2.bad _, ht1.setCell (p := ⟨R, 1, none⟩) (.inl (by simp)) _⟩
    have hI := itemhas_s _ ls wc (OwnG.at (fun _ => rfl) hown) (by omega)
    go_wp2_with fail
    refine hI.mono ?_; rintro e w5 ⟨q, rfl, hb⟩
    have hr5 := hr2.below hb
    have ht5 := ht1.below hb
    clear hc0 hc1 hf0 hf1
    obtain ⟨a, n, c, bad', hn, hc0, hc1, hf0, hf1⟩ := hr5.cells
    cases q with
    | true =>
      go_wp2
      go_ret
      exact ⟨_, _, _, rfl, hr5.bad _, ht5.setCell (.inl (by simp)) _⟩
    | false =>
      go_wp2
      go_ret
      exact ⟨_, _, _, rfl, hr5, ht5⟩
end Go.Proofs.YtilcfpaimhiofaaGreatDoor
