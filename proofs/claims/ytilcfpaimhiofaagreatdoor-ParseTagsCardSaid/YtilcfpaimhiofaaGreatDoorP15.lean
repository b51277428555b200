/- cubbylaw16.ParseTags: it answers true. -/
import Derived.Test.YtilcfpaimhiofaaGreatDoorP14
import Derived.Deep.CutBlock
namespace Go.Proofs.YtilcfpaimhiofaaGreatDoor
open Go.RowKit

theorem index_sp : ∀ (l : List UInt8) (k : Nat), k < l.length → (l.take k).all (fun c => c != 32) = true → l[k]? = some 32 → Lib.index l [32] = k
  | [], k, h, _, _ => by simp at h
  | c :: r, 0, _, _, h => by simp at h; subst h; simp [Lib.index]
  | c :: r, k + 1, hk, ha, h => by
    simp at ha h hk
    have ih := index_sp r k hk (by simpa using ha.2) h
    rw [Lib.index, ih]
    have h1 : ([32] : List UInt8).isPrefixOf (c :: r) = false := by rw [List.isPrefixOf, beq_eq_false_iff_ne.2 (fun e => ha.1 e.symm)]; rfl
    rw [h1]
    simp
    try omega
theorem index_sp_none : ∀ (l : List UInt8), l.all (fun c => c != 32) = true → Lib.index l [32] = -1
  | [], _ => rfl
  | c :: r, ha => by
    simp at ha
    have ih := index_sp_none r (by simpa using ha.2)
    rw [Lib.index, ih]
    have h1 : ([32] : List UInt8).isPrefixOf (c :: r) = false := by rw [List.isPrefixOf, beq_eq_false_iff_ne.2 (fun e => ha.1 e.symm)]; rfl
    rw [h1]
    simp
theorem cut_sp (l : List UInt8) (k : Nat) (hk : k ≤ l.length) (ha : (l.take k).all (fun c => c != 32) = true) (h : k = l.length ∨ l[k]? = some 32) : (Lib.cut l [32]).1 = l.take k := by
  unfold Lib.cut
  rcases h with rfl | h
  · rw [List.take_length] at ha ⊢
    simp [index_sp_none l ha]
  · have hlt : k < l.length := (List.getElem?_eq_some_iff.1 h).1
    simp [index_sp l k hlt ha h]

set_option maxHeartbeats 2000000 in
set_option maxRecDepth 100000 in
theorem parsetags_any (v : Value) (l : List UInt8) (w : World) (hG : Glob w) (hv : BytesAt w v l) :
    Calls Tryz.prog 4 #[v] w fun e w' => e = .returned (.bool true) ∧ Below w.heap.size w w' := by
  obtain ⟨va, vc, rfl⟩ : ∃ a c, v = .slice a l.length c := by
    rcases hv with ⟨rfl, c, rfl⟩ | ⟨b, off, cap, rfl, _⟩
    · exact ⟨_, _, rfl⟩
    · exact ⟨_, _, rfl⟩
  have hlm : l.length ≤ 9223372036854775807 := by
    rcases hv with ⟨rfl, c, _⟩ | ⟨b, off, cap, h, h1, h2, _⟩
    · simp
    · unfold maxLen at h2; omega
  go_enter Tryz.func4, Tryz.ntmps4
  go_wp2_with fail
  refine (awake_any w hG).mono ?_; rintro e w1 ⟨rfl, hb1⟩
  have hG1 := hG.below hb1
  by_cases hbig : 3000 < l.length
  · go_wp2_with fail
    refine (awake_any w1 hG1).mono ?_; rintro e w2 ⟨rfl, hb2⟩
    go_wp2
    go_ret
    exact ⟨rfl, hb1.trans (hb2.mono hb1.size)⟩
  · have hv1 := hv.below hb1
    go_upto_block 0 with fail
    go_cut [3] (fun n wx => w1 = wx ∧ ∃ k : Nat, k ≤ l.length ∧ n = .int .i64 k ∧ (l.take k).all (fun c => c != 32) = true ∧ (k = l.length ∨ l[k]? = some 32))
    case first =>
      go_wp2
      go_loop [3] (fun n => ∃ k : Nat, k ≤ l.length ∧ n = .int .i64 k ∧ (l.take k).all (fun c => c != 32) = true) (fun n => l.length - (intOf n).toNat)
      case atStart => exact ⟨0, Nat.zero_le _, rfl, rfl⟩
      case round =>
        obtain ⟨k, hk, rfl, hall⟩ := hrel
        have HA := Lib.hid hall; clear hall
        by_cases hlt : k < l.length
        · rcases hv1 with ⟨rfl, _⟩ | ⟨b, off, cap, he, hlc, hm, hc⟩
          · simp at hlt
          · cases he
            have hck := hc k hlt
            clear hc
            by_cases h32 : l[k] = 32
            · have t : ((l[k].toNat : Int) != 32) = false := bne_no h32
              have He := Lib.hid (show l[k]? = some 32 by rw [List.getElem?_eq_getElem hlt, h32])
              clear h32
              go_wp2
              go_meet
              exact ⟨rfl, k, hk, rfl, HA.out, .inr He.out⟩
            · have t : ((l[k].toNat : Int) != 32) = true := bne_yes h32
              have Hs := Lib.hid (show (l.take (k + 1)).all (fun c => c != 32) = true by
                rw [List.take_succ_eq_append_getElem hlt, List.all_append, HA.out]; simp [h32])
              go_wp2
              go_round
              case rel => exact ⟨k + 1, by omega, by go_num, Hs.out⟩
              case measure => simp [intOf]; omega
        · go_wp2
          go_meet
          exact ⟨rfl, k, hk, rfl, HA.out, .inl (by omega)⟩
    case rest =>
      obtain ⟨rfl, k, hk, rfl, hall, hend⟩ := hcut
      have hcs := cut_sp l k hk hall hend
      have htk : (l.take k).length = k := by rw [List.length_take]; omega
      have Ht := Lib.hid (show tagF l = if taggedL (l.take k) = true then ⟨(l.take k).toArray⟩ else ⟨#[42]⟩ by rw [tagF, hcs])
      have hP := fun wx hGx hvx => parse_any (.slice va l.length vc) l wx hGx hvx (by omega)
      have hT := fun wx hGx hvx => tag_any (.slice va l.length vc) l wx hGx hvx (by omega)
      clear hall hend hcs
      have hvk : BytesAt w1 (.slice va k vc) (l.take k) := by
        rcases hv1 with ⟨rfl, c, h⟩ | ⟨b, off, cap, he, hlc, hm, hc⟩
        · cases h; obtain rfl : k = 0 := by simpa using hk
          exact .inl ⟨rfl, _, rfl⟩
        · cases he
          exact .inr ⟨b, off, vc, by rw [htk], by omega, hm, fun j hj => by rw [List.getElem_take]; exact hc j (by omega)⟩
      have hcv := conv_bytes hvk
      have hkc : k ≤ vc := by
        rcases hv1 with ⟨rfl, c, h⟩ | ⟨b, off, cap, he, hlc, hm, hc⟩
        · cases h; simp at hk; omega
        · cases he; omega
      have hL := ltagged_any ⟨(l.take k).toArray⟩ w1 (by rw [size_mk, htk]; omega)
      have e1 : (⟨(l.take k).toArray⟩ : ByteArray).data.toList = l.take k := rfl
      rw [e1] at hL
      clear e1
      have HV := Lib.hid hv1
      clear hv hv1 hvk htk
      cases hx : taggedL (l.take k) with
      | true =>
        rw [hx] at hL Ht
        rw [if_pos rfl] at Ht
        have Hx := Lib.hid Ht.out
        clear Ht hx
        go_wp2_with fail
        refine hL.mono ?_; rintro e w1 ⟨rfl, rfl⟩
        go_wp2_with fail
        refine (hP w1 hG1 HV.out).mono ?_; rintro e w2 ⟨cs, ok, rfl, hca, hf, _, hb2⟩
        have hG3 := (hG1.below hb2).below ((Below.refl _ _).alloc (Nat.le_refl _) (.cells cs 38))
        have hv3 := (HV.out.below hb2).below ((Below.refl _ _).alloc (Nat.le_refl _) (.cells cs 38))
        have hT3 := hT _ hG3 hv3
        rw [Hx.out] at hf hT3
        have hb3 := (hb1.trans (hb2.mono hb1.size)).alloc (by have := hb1.size; have := hb2.size; omega) (.cells cs 38)
        have hB := Blk.new w2 cs 38
        clear hP hT hG3 hv3 hG1 hb1 hb2
        cases ok with
        | true =>
          clear hf
          go_wp2_with (first | (refine store_new rfl rfl rfl rfl (by rw [hca.1]; exact row_cmd) (by rw [hca.1]; rfl) hca.one ?_) | fail)
          refine hT3.mono ?_; rintro e w4 ⟨rfl, hb4⟩
          go_wp2
          go_ret
          exact ⟨ret_bool (by simp), hb3.trans (hb4.mono hb3.size)⟩
        | false =>
          obtain rfl := hf rfl
          clear hf
          go_wp2_with (first | (refine store_new rfl rfl rfl rfl (by rw [hca.1]; exact row_cmd) (by rw [hca.1]; rfl) hca.one ?_) | fail)
          refine hT3.mono ?_; rintro e w4 ⟨rfl, hb4⟩
          have hB4 := hB.below hb4
          have d0 := hB4.cell 0
          have d1 := hB4.cell 1
          have d14 := hB4.cell 14
          have d15 := hB4.cell 15
          have d16 := hB4.cell 16
          simp only [noneCV, CV.cells, List.getElem?_toArray, List.getElem?_cons_succ, List.getElem?_cons_zero] at d0 d1 d14 d15 d16
          clear hB hB4
          go_wp2
          go_ret
          exact ⟨ret_bool (by simp), hb3.trans (hb4.mono hb3.size)⟩
      | false =>
        rw [hx] at hL Ht
        rw [if_neg (by simp)] at Ht
        have Hx := Lib.hid Ht.out
        clear Ht hx
        go_wp2_with fail
        refine hL.mono ?_; rintro e w1 ⟨rfl, rfl⟩
        go_wp2_with fail
        refine (hP w1 hG1 HV.out).mono ?_; rintro e w2 ⟨cs, ok, rfl, hca, hf, _, hb2⟩
        have hG3 := (hG1.below hb2).below ((Below.refl _ _).alloc (Nat.le_refl _) (.cells cs 38))
        have hv3 := (HV.out.below hb2).below ((Below.refl _ _).alloc (Nat.le_refl _) (.cells cs 38))
        have hT3 := hT _ hG3 hv3
        rw [Hx.out] at hf hT3
        have hb3 := (hb1.trans (hb2.mono hb1.size)).alloc (by have := hb1.size; have := hb2.size; omega) (.cells cs 38)
        have hB := Blk.new w2 cs 38
        clear hP hT hG3 hv3 hG1 hb1 hb2
        cases ok with
        | true =>
          clear hf
          go_wp2_with (first | (refine store_new rfl rfl rfl rfl (by rw [hca.1]; exact row_cmd) (by rw [hca.1]; rfl) hca.one ?_) | fail)
          refine hT3.mono ?_; rintro e w4 ⟨rfl, hb4⟩
          go_wp2
          go_ret
          exact ⟨ret_bool (by simp), hb3.trans (hb4.mono hb3.size)⟩
        | false =>
          obtain rfl := hf rfl
          clear hf
          go_wp2_with (first | (refine store_new rfl rfl rfl rfl (by rw [hca.1]; exact row_cmd) (by rw [hca.1]; rfl) hca.one ?_) | fail)
          refine hT3.mono ?_; rintro e w4 ⟨rfl, hb4⟩
          have hB4 := hB.below hb4
          have d0 := hB4.cell 0
          have d1 := hB4.cell 1
          have d14 := hB4.cell 14
          have d15 := hB4.cell 15
          have d16 := hB4.cell 16
          simp only [noneCV, CV.cells, List.getElem?_toArray, List.getElem?_cons_succ, List.getElem?_cons_zero] at d0 d1 d14 d15 d16
          clear hB hB4
          go_wp2
          go_ret
          exact ⟨ret_bool (by simp), hb3.trans (hb4.mono hb3.size)⟩
end Go.Proofs.YtilcfpaimhiofaaGreatDoor
