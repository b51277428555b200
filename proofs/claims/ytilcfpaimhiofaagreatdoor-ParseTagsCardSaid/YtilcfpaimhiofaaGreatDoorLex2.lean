/- lex.quoted: what it computes. -/
import Derived.Test.YtilcfpaimhiofaaGreatDoorWrap
namespace Go.Proofs.YtilcfpaimhiofaaGreatDoor
open Go.RowKit

/-- quoted: what stands behind the opening quote -/
def quotedL : List UInt8 → List UInt8 → Option (List UInt8 × List UInt8)
  | [], _ => none
  | c :: r, acc =>
    if c = 34 then some (acc, r)
    else if c = 92 then
      match r with
      | [] => none
      | d :: r' => if d = 34 ∨ d = 92 then quotedL r' (acc ++ [d]) else none
    else if c = 13 ∨ c = 10 then none
    else quotedL r (acc ++ [c])
def quotedV : Option (List UInt8 × List UInt8) → Ending
  | none => .returned (.tuple #[.string ⟨#[]⟩, .string ⟨#[]⟩, .bool false])
  | some (a, b) => .returned (.tuple #[.string ⟨a.toArray⟩, .string ⟨b.toArray⟩, .bool true])

section
variable {s : ByteArray} {k : Nat} (acc : List UInt8)
theorem quoted_end (h : ¬ k < s.size) : quotedL (s.data.toList.drop k) acc = none := by
  rw [drop_nil h]; simp [quotedL]
theorem quoted_close (h : k < s.size) (hc : s[k] = 34) : quotedL (s.data.toList.drop k) acc = some (acc, s.data.toList.drop (k + 1)) := by
  rw [drop_cons h, hc]
  conv => lhs; unfold quotedL
  simp
theorem quoted_bad (h : k < s.size) (hc : s[k] = 13 ∨ s[k] = 10) : quotedL (s.data.toList.drop k) acc = none := by
  rw [drop_cons h]
  conv => lhs; unfold quotedL
  rcases hc with hc | hc <;> rw [hc] <;> simp
theorem quoted_step (h : k < s.size) (h1 : s[k] ≠ 34) (h2 : s[k] ≠ 92) (h3 : s[k] ≠ 13) (h4 : s[k] ≠ 10) : quotedL (s.data.toList.drop k) acc = quotedL (s.data.toList.drop (k + 1)) (acc ++ [s[k]]) := by
  rw [drop_cons h]
  conv => lhs; unfold quotedL
  simp [h1, h2, h3, h4]
theorem quoted_esc_end (h : k < s.size) (hc : s[k] = 92) (h' : ¬ k + 1 < s.size) : quotedL (s.data.toList.drop k) acc = none := by
  rw [drop_cons h, hc, drop_nil h']; simp [quotedL]
theorem quoted_esc_bad (h : k < s.size) (hc : s[k] = 92) (h' : k + 1 < s.size) (h1 : s[k + 1] ≠ 34) (h2 : s[k + 1] ≠ 92) : quotedL (s.data.toList.drop k) acc = none := by
  rw [drop_cons h, hc, drop_cons h']; simp [quotedL, h1, h2]
theorem quoted_esc (h : k < s.size) (hc : s[k] = 92) (h' : k + 1 < s.size) (h1 : s[k + 1] = 34 ∨ s[k + 1] = 92) : quotedL (s.data.toList.drop k) acc = quotedL (s.data.toList.drop (k + 2)) (acc ++ [s[k + 1]]) := by
  rw [drop_cons h, hc, drop_cons h']
  conv => lhs; unfold quotedL
  simp [h1]
end

set_option maxHeartbeats 1000000 in
set_option maxRecDepth 100000 in
theorem quoted_any (s : ByteArray) (w : World) (hl : s.size ≤ 4294967280) :
    Calls Tryz.prog 41 #[.string s] w fun e w' => e = quotedV (quotedL (s.data.toList.drop 1) []) ∧ Below w.heap.size w w' := by
  go_enter Tryz.func41, Tryz.ntmps41
  go_wp2
  go_loopw [5, 6] (fun v i wr => ∃ (k : Nat) (acc : List UInt8), 1 ≤ k ∧ (k ≤ s.size ∨ k = 1) ∧ i = .int .i64 k ∧ acc.length ≤ k ∧ OwnB wr w.heap.size v acc ∧ quotedL (s.data.toList.drop 1) [] = quotedL (s.data.toList.drop k) acc ∧ Below w.heap.size w wr) (fun _ i _ => s.size - (intOf i).toNat)
  case atStart => exact ⟨1, [], Nat.le_refl _, .inr rfl, rfl, by simp, OwnB.nil _ _, rfl, Below.refl _ _⟩
  case round =>
    obtain ⟨k, acc, hk1, hk, rfl, hal, hown, hq, hb⟩ := hrel
    have Hq := Lib.hid hq; clear hq
    by_cases hlt : k < s.size
    · have hcn := fun n => conv_bytes (hown.at.drewN n)
      clear hk
      by_cases c34 : s[k] = 34
      · have t34 : ((s[k].toNat : Int) == 34) = true := beq_yes c34
        have C34 := Lib.hid c34; clear c34
        obtain ⟨d, hx, Hd⟩ := ext_from s (k + 1)
        go_wp2_with fail
        go_quiet (fail)
        go_wp2
        go_ret3
        exact ⟨by rw [Hq.out, quoted_close _ hlt C34.out, Hd.out]; rfl, below_drewN hb _⟩
      · have t34 : ((s[k].toNat : Int) == 34) = false := beq_no c34
        by_cases c92 : s[k] = 92
        · have t92 : ((s[k].toNat : Int) == 92) = true := beq_yes c92
          have C92 := Lib.hid c92; clear c92
          by_cases hlt1 : k + 1 < s.size
          · by_cases hd : s[k + 1] = 34 ∨ s[k + 1] = 92
            · have Hs := Lib.hid (quoted_esc acc hlt C92.out hlt1 hd)
              have u34 : ((s[k + 1].toNat : Int) != 34) = false ∨ ((s[k + 1].toNat : Int) != 92) = false := by
                rcases hd with hd | hd
                · exact .inl (bne_no hd)
                · exact .inr (bne_no hd)
              clear hd
              by_cases v34 : ((s[k + 1].toNat : Int) != 34) = false
              · clear u34
                go_wp2_with (at_builtin; refine app_u8 rfl _ _ rfl w.heap.size _ acc (s[k + 1]) rfl (hown.alloc _) wr.heap.size rfl ?c1a ?c2a ?c3a ?ma)
                case c1a => exact cell_new1 _ _ _
                case c2a => omega
                case c3a => have := hb.size; simp; omega
                case' ma => intro v' w1 hown1 hg1
                have hb1 := hown.grown hb _ hb.size hg1
                clear hg1 hown hb
                go_wp2
                go_roundw
                case rel => exact ⟨k + 2, acc ++ [s[k + 1]], by omega, .inl (by omega), by go_num, by simp; omega, hown1, Hq.out.trans Hs.out, hb1⟩
                case measure => simp [intOf]; omega
              · have v92 := u34.resolve_left v34
                have v34' : ((s[k + 1].toNat : Int) != 34) = true := by simpa using v34
                clear u34 v34
                go_wp2_with (at_builtin; refine app_u8 rfl _ _ rfl w.heap.size _ acc (s[k + 1]) rfl (hown.alloc _) wr.heap.size rfl ?c1b ?c2b ?c3b ?mb)
                case c1b => exact cell_new1 _ _ _
                case c2b => omega
                case c3b => have := hb.size; simp; omega
                case' mb => intro v' w1 hown1 hg1
                have hb1 := hown.grown hb _ hb.size hg1
                clear hg1 hown hb
                go_wp2
                go_roundw
                case rel => exact ⟨k + 2, acc ++ [s[k + 1]], by omega, .inl (by omega), by go_num, by simp; omega, hown1, Hq.out.trans Hs.out, hb1⟩
                case measure => simp [intOf]; omega
            · have h1 : s[k + 1] ≠ 34 := fun h => hd (.inl h)
              have h2 : s[k + 1] ≠ 92 := fun h => hd (.inr h)
              have Hs := Lib.hid (quoted_esc_bad acc hlt C92.out hlt1 h1 h2)
              have v34 : ((s[k + 1].toNat : Int) != 34) = true := bne_yes h1
              have v92 : ((s[k + 1].toNat : Int) != 92) = true := bne_yes h2
              clear hd h1 h2
              go_wp2
              go_ret3
              exact ⟨by rw [Hq.out, Hs.out]; rfl, hb⟩
          · have Hs := Lib.hid (quoted_esc_end acc hlt C92.out hlt1)
            go_wp2
            go_ret3
            exact ⟨by rw [Hq.out, Hs.out]; rfl, hb⟩
        · have t92 : ((s[k].toNat : Int) == 92) = false := beq_no c92
          by_cases c13 : s[k] = 13
          · have t13 : ((s[k].toNat : Int) == 13) = true := beq_yes c13
            have Hs := Lib.hid (quoted_bad acc hlt (.inl c13))
            clear c13
            go_wp2
            go_ret3
            exact ⟨by rw [Hq.out, Hs.out]; rfl, hb⟩
          · have t13 : ((s[k].toNat : Int) == 13) = false := beq_no c13
            by_cases c10 : s[k] = 10
            · have t10 : ((s[k].toNat : Int) == 10) = true := beq_yes c10
              have Hs := Lib.hid (quoted_bad acc hlt (.inr c10))
              clear c10
              go_wp2
              go_ret3
              exact ⟨by rw [Hq.out, Hs.out]; rfl, hb⟩
            · have t10 : ((s[k].toNat : Int) == 10) = false := beq_no c10
              have Hs := Lib.hid (quoted_step acc hlt c34 c92 c13 c10)
              clear c34 c92 c13 c10
              go_wp2_with (at_builtin; refine app_u8 rfl _ _ rfl w.heap.size _ acc (s[k]) rfl (hown.alloc _) wr.heap.size rfl ?c1c ?c2c ?c3c ?mc)
              case c1c => exact cell_new1 _ _ _
              case c2c => omega
              case c3c => have := hb.size; simp; omega
              case' mc => intro v' w1 hown1 hg1
              have hb1 := hown.grown hb _ hb.size hg1
              clear hg1 hown hb
              go_wp2
              go_roundw
              case rel => exact ⟨k + 1, acc ++ [s[k]], by omega, .inl (by omega), by go_num, by simp; omega, hown1, Hq.out.trans Hs.out, hb1⟩
              case measure => simp [intOf]; omega
    · go_wp2
      go_ret3
      exact ⟨by rw [Hq.out, quoted_end _ hlt]; rfl, hb⟩
end Go.Proofs.YtilcfpaimhiofaaGreatDoor
