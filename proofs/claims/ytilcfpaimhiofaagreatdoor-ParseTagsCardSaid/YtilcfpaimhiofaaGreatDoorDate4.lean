/- date.Parse: what it computes. -/
import Derived.Test.YtilcfpaimhiofaaGreatDoorDate1
import Derived.Test.YtilcfpaimhiofaaGreatDoorDate3
import Derived.Deep.RegionWith
import Derived.Deep.DeepCutAuto
namespace Go.Proofs.YtilcfpaimhiofaaGreatDoor
open Go.RowKit

def dateBody (d m y hour min sec zh zm : Int) (west : Bool) : Option Int :=
  if d < 1 ∨ m < 1 ∨ y < 0 ∨ hour < 0 ∨ 23 < hour ∨ min < 0 ∨ 59 < min ∨ sec < 0 ∨ 59 < sec then none
  else if zh < 0 ∨ 14 < zh ∨ zm < 0 ∨ 59 < zm then none
  else if sinceF y m d < -1 then none
  else if (civilF (sinceF y m d)).1 ≠ y ∨ (civilF (sinceF y m d)).2.1 ≠ m ∨ (civilF (sinceF y m d)).2.2 ≠ d then none
  else
    let ahead := if west then -(zh * 3600 + zm * 60) else zh * 3600 + zm * 60
    let t := sinceF y m d * 86400 + hour * 3600 + min * 60 + sec - ahead
    if t < 0 ∨ 253402300799 < t then none else some t
def dayB (s : ByteArray) : ByteArray := if gb s 0 = 32 then ⟨#[48, gb s 1]⟩ else s.extract 0 2
def numB (s : ByteArray) : Int := dateNum s.data.toList 0
def dateF (s : ByteArray) : Option Int :=
  if s.size ≠ 26 then none
  else if asciiL s = false then none
  else if signsF s = false then none
  else dateBody (numB (dayB s)) (namedF (s.extract 3 6)) (numB (s.extract 7 11)) (numB (s.extract 12 14)) (numB (s.extract 15 17)) (numB (s.extract 18 20)) (numB (s.extract 22 24)) (numB (s.extract 24 26)) (gb s 21 == 45)
def dateV : Option Int → Ending
  | none => .returned (.tuple #[.int .i64 0, .bool false])
  | some t => .returned (.tuple #[.int .i64 t, .bool true])
theorem dnum (s : ByteArray) (w : World) (hl : s.size ≤ 9) :
    Calls Tryz.prog 73 #[.string s] w fun e w' => e = .returned (.int .i64 (numB s)) ∧ w' = w :=
  (dnumber_any s w hl).mono fun _ _ h => ⟨h.1, h.2.symm⟩
theorem numB_bd (s : ByteArray) (n : Nat) (h : s.size ≤ n) : -1 ≤ numB s ∧ numB s < 10 ^ n := by
  have hb := dateNum_bd s.data.toList 0 (by omega)
  refine ⟨hb.1, Int.lt_of_lt_of_le hb.2 ?_⟩
  rw [size_toList]
  have h := Nat.pow_le_pow_right (show 0 < 10 by decide) h
  have : ((10 ^ s.size : Nat) : Int) ≤ ((10 ^ n : Nat) : Int) := by omega
  simpa using this
theorem namedL_bd (s : ByteArray) : ∀ l : List Nat, (∀ m ∈ l, m ≤ 12) → 0 ≤ namedL s l ∧ namedL s l ≤ 12
  | [], _ => by simp [namedL]
  | m :: r, h => by
    unfold namedL
    have := h m (by simp)
    have ih := namedL_bd s r (fun x hx => h x (by simp [hx]))
    split <;> omega
theorem namedF_bd (s : ByteArray) : 0 ≤ namedF s ∧ namedF s ≤ 12 := namedL_bd s _ (by decide)
theorem ascii_ext {s : ByteArray} (h : asciiL s = true) (a b : Nat) : (s.extract a b).data.toList.all asciiB = true := by
  rw [List.all_eq_true]
  intro x hx
  rw [ByteArray.data_extract, Array.toList_extract, List.extract_eq_take_drop] at hx
  exact List.all_eq_true.1 h x (List.mem_of_mem_drop (List.mem_of_mem_take hx))

theorem ext_any (s : ByteArray) (a b : Nat) (hab : a ≤ b) (hb : b ≤ s.size) : ∃ d : ByteArray, s.extract a b = d ∧ Hid (s.extract a b = d) ∧ b - a ≤ d.size ∧ d.size ≤ b - a := by
  refine ⟨_, rfl, Lib.hid rfl, ?_, ?_⟩ <;> rw [ByteArray.size_extract] <;> omega
theorem ext_get {s : ByteArray} (h : 2 ≤ s.size) : gb (s.extract 0 2) 0 = gb s 0 ∧ (s.extract 0 2).data.toList = [gb s 0, gb s 1] := by
  have h1 : (s.extract 0 2).data.toList = [gb s 0, gb s 1] := by
    rw [ByteArray.data_extract, Array.toList_extract, List.extract_eq_take_drop]
    have hl : 2 ≤ s.data.toList.length := by rw [size_toList]; exact h
    match hs : s.data.toList, hl with
    | a :: b :: r, _ => simp [gb, hs]
  exact ⟨by rw [gb, h1]; rfl, h1⟩

theorem sinceF_bd (y m d : Int) (hy0 : 0 ≤ y) (hy1 : y ≤ 9999) (hm0 : 1 ≤ m) (hm1 : m ≤ 12) (hd0 : 0 ≤ d) (hd1 : d ≤ 99) : sinceF y m d ≤ 3000000 := by
  unfold sinceF sinceY sinceDay
  split
  · split <;> omega
  · omega

set_option maxHeartbeats 4000000 in
set_option maxRecDepth 100000 in
theorem dateparse_any (s : ByteArray) (w : World) (hl : s.size ≤ 4294967280) :
    Calls Tryz.prog 49 #[.string s] w fun e w' => e = dateV (dateF s) ∧ Below w.heap.size w w' := by
  by_cases h26 : s.size = 26
  · cases hA : asciiL s with
    | false =>
      have hAs := dascii_any s w hl
      rw [hA] at hAs
      have t26 : ((s.size : Int) != 26) = false := by rw [h26]; rfl
      have H := Lib.hid (show dateF s = none by rw [dateF, if_neg (by omega), if_pos hA]); clear hA h26
      go_enter Tryz.func49, Tryz.ntmps49
      go_wp2_with fail
      refine hAs.mono ?_; rintro e w1 ⟨rfl, rfl⟩
      go_wp2
      go_ret2
      exact ⟨by rw [H.out]; rfl, Below.refl _ _⟩
    | true =>
      cases hS : signsF s with
      | false =>
        have hAs := dascii_any s w hl
        rw [hA] at hAs
        have hSs := dsigns_any s h26 w
        rw [hS] at hSs
        have t26 : ((s.size : Int) != 26) = false := by rw [h26]; rfl
        have H := Lib.hid (show dateF s = none by rw [dateF, if_neg (by omega), if_neg (by rw [hA]; simp), if_pos hS]); clear hA h26 hS
        go_enter Tryz.func49, Tryz.ntmps49
        go_wp2_with fail
        refine hAs.mono ?_; rintro e w1 ⟨rfl, rfl⟩
        go_wp2_with fail
        refine hSs.mono ?_; rintro e w1 ⟨rfl, rfl⟩
        go_wp2
        go_ret2
        exact ⟨by rw [H.out]; rfl, Below.refl _ _⟩
      | true =>
        have hAs := dascii_any s w hl
        rw [hA] at hAs
        have hSs := dsigns_any s h26 w
        rw [hS] at hSs
        have t26 : ((s.size : Int) != 26) = false := by rw [h26]; rfl
        have H := Lib.hid (show dateF s = _ by rw [dateF, if_neg (by omega), if_neg (by rw [hA]; simp), if_neg (by rw [hS]; simp)])
        have b1 : 26 ≤ s.size := by omega
        have b2 : s.size ≤ 26 := by omega
        have hasc := ascii_ext hA 3 6
        have hg := ext_get (s := s) (by omega)
        clear hA h26 hS
        obtain ⟨x0, hx0, Hx0, z0, z0'⟩ := ext_any s 0 2 (by omega) (by omega)
        obtain ⟨x3, hx3, Hx3, z3, z3'⟩ := ext_any s 3 6 (by omega) (by omega)
        obtain ⟨x7, hx7, Hx7, z7, z7'⟩ := ext_any s 7 11 (by omega) (by omega)
        obtain ⟨x12, hx12, Hx12, z12, z12'⟩ := ext_any s 12 14 (by omega) (by omega)
        obtain ⟨x15, hx15, Hx15, z15, z15'⟩ := ext_any s 15 17 (by omega) (by omega)
        obtain ⟨x18, hx18, Hx18, z18, z18'⟩ := ext_any s 18 20 (by omega) (by omega)
        obtain ⟨x22, hx22, Hx22, z22, z22'⟩ := ext_any s 22 24 (by omega) (by omega)
        obtain ⟨x24, hx24, Hx24, z24, z24'⟩ := ext_any s 24 26 (by omega) (by omega)
        rw [hx0] at hg
        rw [hx3] at hasc
        have hd : dayB s = if gb s 0 = 32 then ⟨#[48, gb s 1]⟩ else x0 := by rw [dayB, hx0]
        have H2 := Lib.hid (show dateF s = dateBody (numB (dayB s)) (namedF x3) (numB x7) (numB x12) (numB x15) (numB x18) (numB x22) (numB x24) (gb s 21 == 45) by rw [H.out, hx3, hx7, hx12, hx15, hx18, hx22, hx24])
        clear H
        have hg0 : gb x0 0 = x0[0] := gb_at (by omega)
        rw [hg0] at hg
        obtain ⟨y1, hy1, Hy1⟩ := ext_from x0 1
        have hyl : y1.data.toList = [gb s 1] := by rw [← Hy1.out, hg.2]; rfl
        have zy : y1.size ≤ 1 := by rw [← size_toList, hyl]; exact Nat.le_refl _
        obtain ⟨dd, hdd⟩ : ∃ dd : ByteArray, (⟨#[48]⟩ : ByteArray) ++ y1 = dd := ⟨_, rfl⟩
        have hdl : dd.data.toList = [48, gb s 1] := by rw [← hdd, ByteArray.data_append, Array.toList_append, hyl]; rfl
        have Hdy : Hid (x0[0] = 32 → dayB s = dd) := Lib.hid fun h => by rw [hd, ← hg.1, if_pos h]; apply ByteArray.ext; apply Array.toList_inj.1; rw [hdl]
        have Hdn : Hid (¬ x0[0] = 32 → dayB s = x0) := Lib.hid fun h => by rw [hd, ← hg.1, if_neg h]
        have zdd : (dayB s).size ≤ 2 := by
          by_cases c0 : x0[0] = 32
          · rw [Hdy.out c0, ← size_toList, hdl]; exact Nat.le_refl _
          · rw [Hdn.out c0]; exact z0'
        clear hyl hdl hd hg hg0
        go_enter Tryz.func49, Tryz.ntmps49
        go_wp2_with fail
        refine hAs.mono ?_; rintro e w1 ⟨rfl, rfl⟩
        go_wp2_with fail
        refine hSs.mono ?_; rintro e w1 ⟨rfl, rfl⟩
        clear hAs hSs
        go_upto_if 36 with fail
        go_cut [4] (fun dv wx => dv = .string (dayB s) ∧ wx = w)
        case first =>
          by_cases c0 : x0[0] = 32
          · have t0 := beqY 32 c0
            have Hd := Lib.hid (Hdy.out c0); clear c0
            go_wp2_with fail
            go_meet
            exact ⟨by rw [Hd.out], rfl⟩
          · have t0 := beqN 32 c0
            have Hd := Lib.hid (Hdn.out c0); clear c0
            go_wp2_with fail
            go_meet
            exact ⟨by rw [Hd.out], rfl⟩
        case rest =>
          obtain ⟨rfl, rfl⟩ := hcut
          clear hx0 hy1 hdd Hdy Hdn
          generalize dayB s = dy at zdd H2
          go_upto_region 6 with fail
          go_cut [5, 6, 7] (fun dv mv yv wx => dv = .int .i64 (numB dy) ∧ mv = .int .i64 (namedF x3) ∧ yv = .int .i64 (numB x7) ∧ Below wc.heap.size wc wx)
          case first =>
            go_region_with (first | (go_at_call 73; refine (dnumber_any _ _ (by omega)).mono ?_; rintro e w1 ⟨rfl, rfl⟩) | (go_at_call 74; refine (dnamed_any x3 _ (by omega) hasc).mono ?_; rintro e w2 ⟨rfl, hbN⟩))
            all_goals (
              go_wp2_with fail
              go_meet
              exact ⟨rfl, rfl, rfl, (((Below.refl _ _).drew).trans hbN)⟩)
          case rest =>
            obtain ⟨rfl, rfl, rfl, hb⟩ := hcut
            have q0 := numB_bd dy 2 zdd
            have q3 := namedF_bd x3
            have q7 := numB_bd x7 4 z7'
            have q12 := numB_bd x12 2 z12'
            have q15 := numB_bd x15 2 z15'
            have q18 := numB_bd x18 2 z18'
            have q22 := numB_bd x22 2 z22'
            have q24 := numB_bd x24 2 z24'
            clear hasc zdd z0 z0'
            generalize namedF x3 = m at q3 H2
            generalize numB dy = d at q0 H2
            generalize numB x7 = y at q7 H2
            have HX := Lib.hid hx3
            clear z3 z3' hx3
            go_upto_region 7 with fail
            go_cut [8, 9, 10] (fun a b c wx => a = .int .i64 (numB x12) ∧ b = .int .i64 (numB x15) ∧ c = .int .i64 (numB x18) ∧ Below wc.heap.size wc wx)
            case first =>
              go_quiet ((go_at_call 73; exact Calls.quiet_of_same (dnum _ _ (by omega))))
              go_wp2_with fail
              go_meet
              exact ⟨rfl, rfl, rfl, below_drewN (Below.refl _ _) _⟩
            case rest =>
              obtain ⟨rfl, rfl, rfl, hb2⟩ := hcut
              go_upto_region 8 with fail
              go_cut [11, 12] (fun a b wx => a = .int .i64 (numB x22) ∧ b = .int .i64 (numB x24) ∧ Below wc.heap.size wc wx)
              case first =>
                go_quiet ((go_at_call 73; exact Calls.quiet_of_same (dnum _ _ (by omega))))
                go_wp2_with fail
                go_meet
                exact ⟨rfl, rfl, below_drewN (Below.refl _ _) _⟩
              case rest =>
                obtain ⟨rfl, rfl, hb3⟩ := hcut
                have hbb := hb.trans ((hb2.trans (hb3.mono hb2.size)).mono hb.size)
                clear hb hb2 hb3 hx7 hx12 hx15 hx18 hx22 hx24 HX
                generalize numB x12 = h at q12 H2
                generalize numB x15 = mi at q15 H2
                generalize numB x18 = se at q18 H2
                generalize numB x22 = zh at q22 H2
                generalize numB x24 = zm at q24 H2
                clear z7 z7' z12 z12' z15 z15' z18 z18' z22 z22' z24 z24'
                have H3 := Lib.hid H2; clear H2
                have hi21 : 21 < s.size := by omega
                have hg21 : gb s 21 = s[21] := gb_at hi21
                rw [hg21] at H3
                clear hg21
                simp only [Int.reducePow] at q0 q3 q7 q12 q15 q18 q22 q24
                by_cases c0 : d < 1
                · go_wp2
                  go_ret2
                  exact ⟨by rw [H3.out, dateBody, if_pos (.inl c0)]; rfl, hbb⟩
                by_cases c1 : m < 1
                · go_wp2
                  go_ret2
                  exact ⟨by rw [H3.out, dateBody, if_pos (.inr (.inl c1))]; rfl, hbb⟩
                by_cases c2 : y < 0
                · go_wp2
                  go_ret2
                  exact ⟨by rw [H3.out, dateBody, if_pos (.inr (.inr (.inl c2)))]; rfl, hbb⟩
                by_cases c3 : h < 0
                · go_wp2
                  go_ret2
                  exact ⟨by rw [H3.out, dateBody, if_pos (.inr (.inr (.inr (.inl c3))))]; rfl, hbb⟩
                by_cases c4 : 23 < h
                · go_wp2
                  go_ret2
                  exact ⟨by rw [H3.out, dateBody, if_pos (.inr (.inr (.inr (.inr (.inl c4)))))]; rfl, hbb⟩
                by_cases c5 : mi < 0
                · go_wp2
                  go_ret2
                  exact ⟨by rw [H3.out, dateBody, if_pos (.inr (.inr (.inr (.inr (.inr (.inl c5))))))]; rfl, hbb⟩
                by_cases c6 : 59 < mi
                · go_wp2
                  go_ret2
                  exact ⟨by rw [H3.out, dateBody, if_pos (.inr (.inr (.inr (.inr (.inr (.inr (.inl c6)))))))]; rfl, hbb⟩
                by_cases c7 : se < 0
                · go_wp2
                  go_ret2
                  exact ⟨by rw [H3.out, dateBody, if_pos (.inr (.inr (.inr (.inr (.inr (.inr (.inr (.inl c7))))))))]; rfl, hbb⟩
                by_cases c8 : 59 < se
                · go_wp2
                  go_ret2
                  exact ⟨by rw [H3.out, dateBody, if_pos (.inr (.inr (.inr (.inr (.inr (.inr (.inr (.inr (c8)))))))))]; rfl, hbb⟩
                have H4 := Lib.hid (H3.out.trans (by rw [dateBody, if_neg (by omega)])); clear H3
                by_cases e0 : zh < 0
                · go_wp2
                  go_ret2
                  exact ⟨by rw [H4.out, if_pos (.inl e0)]; rfl, hbb⟩
                by_cases e1 : 14 < zh
                · go_wp2
                  go_ret2
                  exact ⟨by rw [H4.out, if_pos (.inr (.inl e1))]; rfl, hbb⟩
                by_cases e2 : zm < 0
                · go_wp2
                  go_ret2
                  exact ⟨by rw [H4.out, if_pos (.inr (.inr (.inl e2)))]; rfl, hbb⟩
                by_cases e3 : 59 < zm
                · go_wp2
                  go_ret2
                  exact ⟨by rw [H4.out, if_pos (.inr (.inr (.inr (e3))))]; rfl, hbb⟩
                have H5 := Lib.hid (H4.out.trans (if_neg (by omega))); clear H4
                have hsb := sinceF_bd y m d (by omega) (by omega) (by omega) (by omega) (by omega) (by omega)
                have hSi := since_any y m d wc (by omega) (by omega) (by omega) (by omega) (by omega) (by omega)
                generalize sinceF y m d = days at hSi H5 hsb
                go_wp2_with fail
                refine hSi.mono ?_; rintro e w1 ⟨rfl, rfl⟩
                clear hSi
                by_cases f1 : days < -1
                · go_wp2
                  go_ret2
                  exact ⟨by rw [H5.out, if_pos f1]; rfl, hbb⟩
                have H6 := Lib.hid (H5.out.trans (if_neg f1)); clear H5
                have hCi := civil_any days wc (by omega) hsb
                generalize civilF days = cv at hCi H6
                obtain ⟨y2, m2, d2⟩ := cv
                go_wp2_with fail
                refine hCi.mono ?_; rintro e w1 ⟨rfl, rfl⟩
                clear hCi
                by_cases g0 : y2 = y
                rotate_left
                · have tt : (y2 != y) = true := bne_iff_ne.2 g0
                  go_wp2
                  go_ret2
                  exact ⟨by rw [H6.out, if_pos (.inl g0)]; rfl, hbb⟩
                have tt0 : (y2 != y) = false := by rw [g0]; simp
                have G0 := Lib.hid g0; clear g0
                by_cases g1 : m2 = m
                rotate_left
                · have tt : (m2 != m) = true := bne_iff_ne.2 g1
                  go_wp2
                  go_ret2
                  exact ⟨by rw [H6.out, if_pos (.inr (.inl g1))]; rfl, hbb⟩
                have tt1 : (m2 != m) = false := by rw [g1]; simp
                have G1 := Lib.hid g1; clear g1
                by_cases g2 : d2 = d
                rotate_left
                · have tt : (d2 != d) = true := bne_iff_ne.2 g2
                  go_wp2
                  go_ret2
                  exact ⟨by rw [H6.out, if_pos (.inr (.inr g2))]; rfl, hbb⟩
                have tt2 : (d2 != d) = false := by rw [g2]; simp
                have G2 := Lib.hid g2; clear g2
                have H7 := Lib.hid (H6.out.trans (if_neg (by simp [G0.out, G1.out, G2.out]))); clear H6
                by_cases c21 : s[21] = 45
                · have t21 := beqY 45 c21
                  have H8 := Lib.hid (H7.out.trans (by rw [beq_iff_eq.2 c21])); clear H7 c21
                  by_cases k0 : days * 86400 + h * 3600 + mi * 60 + se - (-(zh * 3600 + zm * 60)) < 0
                  · have HN := Lib.hid (H8.out.trans (if_pos (.inl (by simp only [if_true]; omega)))); clear H8
                    go_wp2
                    go_ret2
                    exact ⟨by rw [HN.out]; rfl, hbb⟩
                  by_cases k1 : 253402300799 < days * 86400 + h * 3600 + mi * 60 + se - (-(zh * 3600 + zm * 60))
                  · have HN := Lib.hid (H8.out.trans (if_pos (.inr (by simp only [if_true]; omega)))); clear H8
                    go_wp2
                    go_ret2
                    exact ⟨by rw [HN.out]; rfl, hbb⟩
                  have HN := Lib.hid (H8.out.trans (if_neg (by simp only [if_true]; omega))); clear H8
                  have HQ : dateF s = some (days * 86400 + h * 3600 + mi * 60 + se + (zh * 3600 + zm * 60)) := by rw [HN.out]; simp [Int.sub_neg]
                  have HQ := Lib.hid HQ
                  go_wp2
                  go_ret2
                  exact ⟨by rw [HQ.out]; rfl, hbb⟩
                · have t21 := beqN 45 c21
                  have H8 := Lib.hid (H7.out.trans (by rw [show (s[21] == 45) = false from beq_false_of_ne c21])); clear H7 c21
                  by_cases k0 : days * 86400 + h * 3600 + mi * 60 + se - (zh * 3600 + zm * 60) < 0
                  · have HN := Lib.hid (H8.out.trans (if_pos (.inl (by simp only [Bool.false_eq_true, if_false]; omega)))); clear H8
                    go_wp2
                    go_ret2
                    exact ⟨by rw [HN.out]; rfl, hbb⟩
                  by_cases k1 : 253402300799 < days * 86400 + h * 3600 + mi * 60 + se - (zh * 3600 + zm * 60)
                  · have HN := Lib.hid (H8.out.trans (if_pos (.inr (by simp only [Bool.false_eq_true, if_false]; omega)))); clear H8
                    go_wp2
                    go_ret2
                    exact ⟨by rw [HN.out]; rfl, hbb⟩
                  have HN := Lib.hid (H8.out.trans (if_neg (by simp only [Bool.false_eq_true, if_false]; omega))); clear H8
                  go_wp2
                  go_ret2
                  exact ⟨by rw [HN.out]; rfl, hbb⟩
  · have t26 : ((s.size : Int) != 26) = true := bne_iff_ne.2 (by omega)
    have H := Lib.hid (show dateF s = none by rw [dateF, if_pos h26]); clear h26
    go_enter Tryz.func49, Tryz.ntmps49
    go_wp2
    go_ret2
    exact ⟨by rw [H.out]; rfl, Below.refl _ _⟩
end Go.Proofs.YtilcfpaimhiofaaGreatDoor
