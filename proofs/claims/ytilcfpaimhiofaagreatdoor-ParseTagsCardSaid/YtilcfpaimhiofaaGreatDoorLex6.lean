/- lex.Tokens: what it computes. -/
import Derived.Test.YtilcfpaimhiofaaGreatDoorTok
namespace Go.Proofs.YtilcfpaimhiofaaGreatDoor
open Go.RowKit

def deepF (k : Int) (d : Int) : Int := if k = 3 then d + 1 else if k = 4 then d - 1 else d
/-- Tokens: with room for n more, so deep in brackets -/
def tokensL : Nat → List UInt8 → Int → Option (List Tok)
  | n, l, d =>
    if l = [] then if d = 0 then some [] else none
    else if (oneF l).2.2 = false then none
    else match n with
      | 0 => none
      | n + 1 =>
        if deepF (oneF l).1.kind d < 0 then none
        else if (apartF (oneF l).2.1 (oneF l).1.kind).2 = false then none
        else (tokensL n (apartF (oneF l).2.1 (oneF l).1.kind).1 (deepF (oneF l).1.kind d)).map ((oneF l).1 :: ·)
def tokensF (l : List UInt8) : Option (List Tok) := tokensL 200 l 0

/-- what the call hands back -/
def TokPost (base : Nat) : Option (List Tok) → Value → Bool → World → Prop
  | none, v, ok, _ => v = .slice none 0 0 ∧ ok = false
  | some ts, v, ok, w' => OwnT w' base v ts ∧ ok = true
def sliceLen : Value → Nat | .slice _ n _ => n | _ => 0

theorem tokens_end (n : Nat) (l : List UInt8) (h : l = []) (d : Int) : tokensL n l d = if d = 0 then some [] else none := by
  unfold tokensL; rw [if_pos h]
theorem tokens_bad (n : Nat) (l : List UInt8) (h : l ≠ []) (ho : (oneF l).2.2 = false) (d : Int) : tokensL n l d = none := by
  unfold tokensL; rw [if_neg h, if_pos ho]
theorem tokens_many (l : List UInt8) (h : l ≠ []) (d : Int) : tokensL 0 l d = none := by
  unfold tokensL; rw [if_neg h]; split <;> rfl
theorem tokens_deep (n : Nat) (l : List UInt8) (h : l ≠ []) (ho : (oneF l).2.2 = true) (d : Int) (hd : deepF (oneF l).1.kind d < 0) : tokensL (n + 1) l d = none := by
  unfold tokensL; rw [if_neg h, if_neg (by rw [ho]; simp)]; exact if_pos hd
theorem tokens_apart (n : Nat) (l : List UInt8) (h : l ≠ []) (ho : (oneF l).2.2 = true) (d : Int) (hd : ¬ deepF (oneF l).1.kind d < 0) (ha : (apartF (oneF l).2.1 (oneF l).1.kind).2 = false) : tokensL (n + 1) l d = none := by
  unfold tokensL; rw [if_neg h, if_neg (by rw [ho]; simp)]; exact (if_neg hd).trans (if_pos ha)
theorem tokens_step (n : Nat) (l : List UInt8) (h : l ≠ []) (ho : (oneF l).2.2 = true) (d : Int) (hd : ¬ deepF (oneF l).1.kind d < 0) (ha : (apartF (oneF l).2.1 (oneF l).1.kind).2 = true) :
    tokensL (n + 1) l d = (tokensL n (apartF (oneF l).2.1 (oneF l).1.kind).1 (deepF (oneF l).1.kind d)).map ((oneF l).1 :: ·) := by
  conv => lhs; unfold tokensL
  rw [if_neg h, if_neg (by rw [ho]; simp)]
  exact (if_neg hd).trans (if_neg (by rw [ha]; simp))

section
variable {l x rl al : List UInt8} {ts : List Tok} {t : Tok} {d d' : Int} {m : Nat} (hq : tokensF l = (tokensL (200 - ts.length) x d).map (ts ++ ·)) (hm : 200 - ts.length = m + 1) (hne : x ≠ []) (ho : oneF x = (t, rl, true)) (hd : deepF t.kind d = d')
include hq hm hne ho hd
theorem tok_next (hd0 : 0 ≤ d') (ha : apartF rl t.kind = (al, true)) : tokensF l = (tokensL (200 - (ts ++ [t]).length) al d').map ((ts ++ [t]) ++ ·) := by
  rw [hq, hm, tokens_step m x hne (by rw [ho]) d (by rw [ho, hd]; omega) (by rw [ho, ha]), ho, ha, hd, Option.map_map]
  have e : 200 - (ts ++ [t]).length = m := by simp; omega
  rw [e]
  congr 1
  funext y
  simp
theorem tok_apart (hd0 : 0 ≤ d') (ha : apartF rl t.kind = (al, false)) : tokensF l = none := by
  rw [hq, hm, tokens_apart m x hne (by rw [ho]) d (by rw [ho, hd]; omega) (by rw [ho, ha])]; rfl
theorem tok_deep (hd0 : d' < 0) : tokensF l = none := by
  rw [hq, hm, tokens_deep m x hne (by rw [ho]) d (by rw [ho, hd]; exact hd0)]; rfl
end
theorem blk_two (w : World) (o : Obj) (c : Array Value) (t : TypeId) : Blk ((w.alloc o).alloc (.cells c t)) (w.heap.size + 1) c t := by
  have := Blk.new (w.alloc o) c t
  simpa using this

set_option maxHeartbeats 4000000 in
set_option maxRecDepth 100000 in
theorem tokens_any (v : Value) (l : List UInt8) (w : World) (hG : Glob w) (hv : BytesAt w v l) (hl : l.length ≤ 4294967280) :
    Calls Tryz.prog 17 #[v] w fun e w' => ∃ tv ok, e = .returned (.tuple #[tv, .bool ok]) ∧ TokPost w.heap.size (tokensF l) tv ok w' ∧ Below w.heap.size w w' := by
  have hcv := conv_bytes hv
  go_enter Tryz.func17, Tryz.ntmps17
  go_wp2
  go_loopw [4, 5, 6] (fun tv dv xv wr => ∃ (ts : List Tok) (x : ByteArray) (d : Int), OwnT wr w.heap.size tv ts ∧ ts.length ≤ 200 ∧ dv = .int .i64 d ∧ 0 ≤ d ∧ d ≤ ts.length ∧ xv = .string x ∧ x.size ≤ l.length ∧ tokensF l = (tokensL (200 - ts.length) x.data.toList d).map (ts ++ ·) ∧ Below w.heap.size w wr) (fun tv _ _ _ => 200 - sliceLen tv)
  case atStart => exact ⟨[], ⟨l.toArray⟩, 0, OwnT.nil _ _, by simp, rfl, by omega, by simp, rfl, by rw [size_mk]; exact Nat.le_refl _, by simp [tokensF], Below.refl _ _⟩
  case round =>
    obtain ⟨ts, x, d, hown, hts, rfl, hd0, hdl, rfl, hx, hq, hb⟩ := hrel
    have Hq := Lib.hid hq; clear hq
    clear hcv hv
    by_cases h0 : x.size = 0
    · have he := empty_yes h0
      have hxe : x.data.toList = [] := List.eq_nil_of_length_eq_zero (by rw [size_toList]; exact h0)
      have Hn := Lib.hid (Hq.out.trans (by rw [tokens_end _ _ hxe])); clear Hq hxe h0
      by_cases hd : d = 0
      · have td : (d != 0) = false := by simp [hd]
        have Hd := Lib.hid hd; clear hd
        go_wp2
        go_ret2
        exact ⟨_, _, rfl, by rw [Hn.out, if_pos Hd.out]; simpa [TokPost] using hown, hb⟩
      · have td : (d != 0) = true := by simp [hd]
        have Hd := Lib.hid hd; clear hd
        go_wp2
        go_ret2
        exact ⟨_, _, rfl, by rw [Hn.out, if_neg Hd.out]; exact ⟨rfl, rfl⟩, hb⟩
    · have he := empty_no (s := x) (by omega)
      have hxe : x.data.toList ≠ [] := fun e => h0 (by rw [← size_toList, e]; rfl)
      obtain ⟨⟨⟨tk, tt⟩, rl, ok⟩, Ho⟩ : ∃ y, Hid (oneF x.data.toList = y) := ⟨_, Lib.hid rfl⟩
      have hle := oneF_le x.data.toList
      rw [Ho.out, size_toList] at hle
      have HO : Calls Tryz.prog 26 #[.string x] wr fun e w' => e = .returned (.tuple #[.agg #[.int .i64 tk, .string ⟨tt.toArray⟩], .string ⟨rl.toArray⟩, .bool ok]) ∧ Below wr.heap.size wr w' := by
        have h := one_any x wr (hG.below (hb.mono (Nat.le_refl _))) (by omega) (by omega)
        rw [Ho.out] at h; exact h
      obtain ⟨⟨al, aok⟩, Ha⟩ : ∃ y, Hid (apartF rl tk = y) := ⟨_, Lib.hid rfl⟩
      have hal := apartF_le rl tk
      rw [Ha.out] at hal
      have HA : ∀ wx : World, Calls Tryz.prog 27 #[.string ⟨rl.toArray⟩, .agg #[.int .i64 tk, .string ⟨tt.toArray⟩]] wx fun e w' => e = .returned (.tuple #[.string ⟨al.toArray⟩, .bool aok]) ∧ Below wx.heap.size wx w' := fun wx => by
        have h := apart_any ⟨rl.toArray⟩ tk ⟨tt.toArray⟩ wx
        simp only [Ha.out] at h; exact h
      have hle1 : rl.length ≤ x.size := hle.2
      have hal1 : al.length ≤ rl.length := hal
      clear hle hal
      obtain ⟨sa, sc, rfl⟩ := hown.shape
      go_wp2_with fail
      refine HO.mono ?_
      rintro e w1 ⟨rfl, hb1⟩
      have hb2 := hb.trans (hb1.mono hb.size)
      have hown1 := hown.below hb1
      clear hb1 HO
      cases ok with
      | false =>
        go_wp2
        go_ret2
        exact ⟨_, _, rfl, by rw [Hq.out, tokens_bad _ _ hxe (by rw [Ho.out])]; exact ⟨rfl, rfl⟩, hb2.alloc hb2.size _⟩
      | true =>
        by_cases h200 : ts.length = 200
        · have t200 : ((ts.length : Int) == 200) = true := by rw [h200]; rfl
          have H200 := Lib.hid h200; clear h200
          go_wp2
          go_ret2
          exact ⟨_, _, rfl, by rw [Hq.out, H200.out, tokens_many _ hxe]; exact ⟨rfl, rfl⟩, hb2.alloc hb2.size _⟩
        · have t200 : ((ts.length : Int) == 200) = false := beq_eq_false_iff_ne.2 (by omega)
          obtain ⟨m, Hm⟩ : ∃ m, Hid (200 - ts.length = m + 1) := ⟨199 - ts.length, Lib.hid (by omega)⟩
          have h200' : ts.length < 200 := by omega
          clear h200
          by_cases k3 : tk = 3
          · have t3 : (tk == 3) = true := by simp [k3]
            have Hd := Lib.hid (show deepF tk d = d + 1 by simp [deepF, k3])
            clear k3
            go_wp2_with (at_builtin; refine app_tok rfl _ _ rfl w.heap.size _ ts ⟨tk, tt⟩ rfl ((hown1.alloc _).alloc _) (w1.heap.size + 1) rfl ?ap ?bp ?cp ?mp)
            case ap => exact blk_two _ _ _ _
            case bp => omega
            case cp => have := hb2.size; simp; omega
            case mp =>
              intro v' w2 hown2 hg2
              have hb3 : Below w.heap.size w w2 := ((hb2.alloc (by have := hb2.size; omega) _).alloc (by have := hb2.size; simp; omega) _).grown hg2 (by have := hb2.size; simp; omega) (fun k hk => (hown1.lt k hk).1)
              have hBt : Blk w2 w1.heap.size #[.int .i64 tk, .string ⟨tt.toArray⟩] 44 := (hg2.block w1.heap.size (by simp; omega) (by intro e; have := (hown1.lt _ e.symm).2; omega)).trans ((heap_alloc_old _ _ (by simp)).trans (heap_alloc_new _ _))
              have hk0 : w2.cell? ⟨w1.heap.size, 0, none⟩ = some (.int .i64 tk) := hBt.cell 0
              have hk1 : w2.cell? ⟨w1.heap.size, 1, none⟩ = some (.string ⟨tt.toArray⟩) := hBt.cell 1
              clear hg2 hBt hown1 hown hb hb2
              go_wp2_with fail
              refine (HA w2).mono ?_
              rintro e w3 ⟨rfl, hb4⟩
              have hown3 := hown2.below hb4
              have hb5 := hb3.trans (hb4.mono hb3.size)
              clear hown2 hb3 hb4 hk0 hk1
              cases aok with
              | false =>
                go_wp2
                go_ret2
                exact ⟨_, _, rfl, by rw [tok_apart Hq.out Hm.out hxe Ho.out Hd.out (by omega) Ha.out]; exact ⟨rfl, rfl⟩, hb5⟩
              | true =>
                have hsl : sliceLen v' = ts.length + 1 := by obtain ⟨a, c, h⟩ := hown3.shape; rw [h]; simp [sliceLen]
                go_wp2
                go_roundw
                case rel => exact ⟨ts ++ [⟨tk, tt⟩], ⟨al.toArray⟩, d + 1, hown3, by simp; omega, by first | rfl | go_num, by omega, by simp; omega, rfl, by rw [size_mk]; omega, tok_next Hq.out Hm.out hxe Ho.out Hd.out (by omega) Ha.out, hb5⟩
                case measure => rw [hsl]; simp [sliceLen]; omega
          · have t3 : (tk == 3) = false := by simp [k3]
            by_cases k4 : tk = 4
            · have t4 : (tk == 4) = true := by simp [k4]
              have Hd := Lib.hid (show deepF tk d = d - 1 by simp [deepF, k4])
              clear k4 k3
              by_cases hd1 : d < 1
              · go_wp2
                go_ret2
                exact ⟨_, _, rfl, by rw [tok_deep Hq.out Hm.out hxe Ho.out Hd.out (by omega)]; exact ⟨rfl, rfl⟩, hb2.alloc hb2.size _⟩
              · have hd2 : 0 ≤ d - 1 := by omega
                go_wp2_with (at_builtin; refine app_tok rfl _ _ rfl w.heap.size _ ts ⟨tk, tt⟩ rfl ((hown1.alloc _).alloc _) (w1.heap.size + 1) rfl ?aq ?bq ?cq ?mq)
                case aq => exact blk_two _ _ _ _
                case bq => omega
                case cq => have := hb2.size; simp; omega
                case mq =>
                  intro v' w2 hown2 hg2
                  have hb3 : Below w.heap.size w w2 := ((hb2.alloc (by have := hb2.size; omega) _).alloc (by have := hb2.size; simp; omega) _).grown hg2 (by have := hb2.size; simp; omega) (fun k hk => (hown1.lt k hk).1)
                  have hBt : Blk w2 w1.heap.size #[.int .i64 tk, .string ⟨tt.toArray⟩] 44 := (hg2.block w1.heap.size (by simp; omega) (by intro e; have := (hown1.lt _ e.symm).2; omega)).trans ((heap_alloc_old _ _ (by simp)).trans (heap_alloc_new _ _))
                  have hk0 : w2.cell? ⟨w1.heap.size, 0, none⟩ = some (.int .i64 tk) := hBt.cell 0
                  have hk1 : w2.cell? ⟨w1.heap.size, 1, none⟩ = some (.string ⟨tt.toArray⟩) := hBt.cell 1
                  clear hg2 hBt hown1 hown hb hb2
                  go_wp2_with fail
                  refine (HA w2).mono ?_
                  rintro e w3 ⟨rfl, hb4⟩
                  have hown3 := hown2.below hb4
                  have hb5 := hb3.trans (hb4.mono hb3.size)
                  clear hown2 hb3 hb4 hk0 hk1
                  cases aok with
                  | false =>
                    go_wp2
                    go_ret2
                    exact ⟨_, _, rfl, by rw [tok_apart Hq.out Hm.out hxe Ho.out Hd.out (by omega) Ha.out]; exact ⟨rfl, rfl⟩, hb5⟩
                  | true =>
                    have hsl : sliceLen v' = ts.length + 1 := by obtain ⟨a, c, h⟩ := hown3.shape; rw [h]; simp [sliceLen]
                    go_wp2
                    go_roundw
                    case rel => exact ⟨ts ++ [⟨tk, tt⟩], ⟨al.toArray⟩, d - 1, hown3, by simp; omega, by first | rfl | go_num, by omega, by simp; omega, rfl, by rw [size_mk]; omega, tok_next Hq.out Hm.out hxe Ho.out Hd.out (by omega) Ha.out, hb5⟩
                    case measure => rw [hsl]; simp [sliceLen]; omega
            · have t4 : (tk == 4) = false := by simp [k4]
              have Hd := Lib.hid (show deepF tk d = d by simp [deepF, k3, k4])
              clear k4 k3
              go_wp2_with (at_builtin; refine app_tok rfl _ _ rfl w.heap.size _ ts ⟨tk, tt⟩ rfl ((hown1.alloc _).alloc _) (w1.heap.size + 1) rfl ?ar ?br ?cr ?mr)
              case ar => exact blk_two _ _ _ _
              case br => omega
              case cr => have := hb2.size; simp; omega
              case mr =>
                intro v' w2 hown2 hg2
                have hb3 : Below w.heap.size w w2 := ((hb2.alloc (by have := hb2.size; omega) _).alloc (by have := hb2.size; simp; omega) _).grown hg2 (by have := hb2.size; simp; omega) (fun k hk => (hown1.lt k hk).1)
                have hBt : Blk w2 w1.heap.size #[.int .i64 tk, .string ⟨tt.toArray⟩] 44 := (hg2.block w1.heap.size (by simp; omega) (by intro e; have := (hown1.lt _ e.symm).2; omega)).trans ((heap_alloc_old _ _ (by simp)).trans (heap_alloc_new _ _))
                have hk0 : w2.cell? ⟨w1.heap.size, 0, none⟩ = some (.int .i64 tk) := hBt.cell 0
                have hk1 : w2.cell? ⟨w1.heap.size, 1, none⟩ = some (.string ⟨tt.toArray⟩) := hBt.cell 1
                clear hg2 hBt hown1 hown hb hb2
                go_wp2_with fail
                refine (HA w2).mono ?_
                rintro e w3 ⟨rfl, hb4⟩
                have hown3 := hown2.below hb4
                have hb5 := hb3.trans (hb4.mono hb3.size)
                clear hown2 hb3 hb4 hk0 hk1
                cases aok with
                | false =>
                  go_wp2
                  go_ret2
                  exact ⟨_, _, rfl, by rw [tok_apart Hq.out Hm.out hxe Ho.out Hd.out (by omega) Ha.out]; exact ⟨rfl, rfl⟩, hb5⟩
                | true =>
                  have hsl : sliceLen v' = ts.length + 1 := by obtain ⟨a, c, h⟩ := hown3.shape; rw [h]; simp [sliceLen]
                  go_wp2
                  go_roundw
                  case rel => exact ⟨ts ++ [⟨tk, tt⟩], ⟨al.toArray⟩, d, hown3, by simp; omega, by first | rfl | go_num, by omega, by simp; omega, rfl, by rw [size_mk]; omega, tok_next Hq.out Hm.out hxe Ho.out Hd.out (by omega) Ha.out, hb5⟩
                  case measure => rw [hsl]; simp [sliceLen]; omega
end Go.Proofs.YtilcfpaimhiofaaGreatDoor
