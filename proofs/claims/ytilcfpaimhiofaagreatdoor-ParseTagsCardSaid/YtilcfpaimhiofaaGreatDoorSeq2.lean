/- seqset.Parse: what it computes. -/
import Derived.Test.YtilcfpaimhiofaaGreatDoorSeq1
import Derived.Test.YtilcfpaimhiofaaGreatDoorName
import Derived.Test.YtilcfpaimhiofaaGreatDoorRow
import Derived.Test.YtilcfpaimhiofaaGreatDoorLex3
namespace Go.Proofs.YtilcfpaimhiofaaGreatDoor
open Go.RowKit

def spanF (p : ByteArray) : (Nat × Nat) × Bool :=
  let a : ByteArray := ⟨(Lib.cut p.data.toList [58]).1.toArray⟩
  let b : ByteArray := if (Lib.cut p.data.toList [58]).2.2 then ⟨(Lib.cut p.data.toList [58]).2.1.toArray⟩ else a
  (((numberF a).1, (numberF b).1), (numberF a).2 && (numberF b).2)
/-- Parse: a set's parts -/
def setF (s : ByteArray) : Option (List (Nat × Nat)) :=
  if 100 < (splitC 44 s).length then none
  else if (splitC 44 s).all (fun p => (spanF p).2) then some ((splitC 44 s).map fun p => (spanF p).1) else none
def spanCells (p : Nat × Nat) : List Value := [.int .u32 p.1, .int .u32 p.2]
theorem span_one : ∀ a : Nat × Nat, ∀ u ∈ spanCells a, u.oneCell' = true := by intro a u hu; simp [spanCells] at hu; rcases hu with rfl | rfl <;> rfl
theorem info_span : (Tryz.prog.info? 115).map (fun i => (i.zero, i.size, i.bytes)) = some (some (.agg #[.int .u32 0, .int .u32 0]), 2, 8) := by kernel_rfl
def SetPost (base : Nat) : Option (List (Nat × Nat)) → Value → Bool → World → Prop
  | none, v, ok, _ => v = .slice none 0 0 ∧ ok = false
  | some l, v, ok, w' => OwnG spanCells 2 w' base 115 v l ∧ ok = true

set_option maxHeartbeats 2000000 in
set_option maxRecDepth 100000 in
theorem seqparse_any (s : ByteArray) (w : World) (hG : Glob w) (hl : s.size ≤ 4294967200) :
    Calls Tryz.prog 50 #[.string s] w fun e w' => ∃ v ok, e = .returned (.tuple #[v, .bool ok]) ∧ SetPost w.heap.size (setF s) v ok w' ∧ Below w.heap.size w w' := by
  have hS := split_any s 44 w hG (by omega)
  have hpl := (splitC_length 44 s).1
  have hsz : ∀ j (h : j < (splitC 44 s).length), ((splitC 44 s)[j]).size ≤ s.size := fun j h => splitC_size (List.getElem_mem h)
  have fin1 : setF s = if 100 < (splitC 44 s).length then none else if (splitC 44 s).all (fun p => (spanF p).2) then some ((splitC 44 s).map fun p => (spanF p).1) else none := rfl
  have Hf := Lib.hid fin1; clear fin1
  generalize splitC 44 s = ps at hS hpl hsz Hf
  have HZ := Lib.hid hsz; clear hsz
  by_cases h100 : 100 < ps.length
  · go_enter Tryz.func50, Tryz.ntmps50
    go_wp2_with fail
    refine hS.mono ?_; rintro e w1 ⟨rfl, rfl⟩
    go_wp2
    go_ret2
    exact ⟨_, _, rfl, by rw [Hf.out, if_pos h100]; exact ⟨rfl, rfl⟩, (Below.refl _ _).alloc (Nat.le_refl _) _⟩
  · have Hf' := Lib.hid (Hf.out.trans (if_neg h100)); clear Hf
    go_enter Tryz.func50, Tryz.ntmps50
    go_wp2_with fail
    refine hS.mono ?_; rintro e w1 ⟨rfl, rfl⟩
    clear hS
    have hb0 : Below w.heap.size w (w.alloc (.cells (ps.map Value.string).toArray 9)) := (Below.refl _ _).alloc (Nat.le_refl _) _
    have Hcell := Lib.hid (fun j (h : j < ps.length) => str_cell (w := w) h)
    generalize hw0 : w.alloc (.cells (ps.map Value.string).toArray 9) = w0 at hb0 Hcell
    have hz0 : w.heap.size < w0.heap.size := by rw [← hw0]; simp
    have hG0 := hG.below hb0
    clear hw0
    go_wp2
    go_loopw [5, 22] (fun v i wr => ∃ k : Nat, k ≤ ps.length ∧ i = .int .i64 k ∧ (ps.take k).all (fun p => (spanF p).2) = true ∧ OwnG spanCells 2 wr w0.heap.size 115 v ((ps.map fun p => (spanF p).1).take k) ∧ Below w0.heap.size w0 wr) (fun _ i _ => ps.length - (intOf i).toNat)
    case atStart => exact ⟨0, Nat.zero_le _, rfl, rfl, OwnG.nil, Below.refl _ _⟩
    case round =>
      obtain ⟨k, hk, rfl, hall, hown, hb⟩ := hrel
      have HA := Lib.hid hall; clear hall
      by_cases hlt : k < ps.length
      · have hc : wr.cell? ⟨w.heap.size, k, none⟩ = some (.string ps[k]) := (hb.cell (p := ⟨w.heap.size, k, none⟩) hz0).trans (Hcell.out k hlt)
        have hpz := HZ.out k hlt
        obtain ⟨p, Hp⟩ : ∃ p, Hid (ps[k] = p) := ⟨_, Lib.hid rfl⟩
        rw [Hp.out] at hc hpz
        have hGr : Glob wr := hG0.below hb
        have hC := cut_any p ⟨#[58]⟩ wr hGr (by omega)
        have hle := cut_le p.data.toList [58]
        rw [size_toList] at hle
        obtain ⟨a, ha, Ha⟩ : ∃ a : ByteArray, (⟨(Lib.cut p.data.toList [58]).1.toArray⟩ : ByteArray) = a ∧ Hid ((⟨(Lib.cut p.data.toList [58]).1.toArray⟩ : ByteArray) = a) := ⟨_, rfl, Lib.hid rfl⟩
        obtain ⟨b, hbb, Hb⟩ : ∃ b : ByteArray, (⟨(Lib.cut p.data.toList [58]).2.1.toArray⟩ : ByteArray) = b ∧ Hid ((⟨(Lib.cut p.data.toList [58]).2.1.toArray⟩ : ByteArray) = b) := ⟨_, rfl, Lib.hid rfl⟩
        obtain ⟨two, Ht⟩ : ∃ t, Hid ((Lib.cut p.data.toList [58]).2.2 = t) := ⟨_, Lib.hid rfl⟩
        have haz : a.size ≤ p.size := by rw [← ha, size_mk]; exact hle.1
        have hbz : b.size ≤ p.size := by rw [← hbb, size_mk]; exact hle.2
        simp only [ha, hbb, Ht.out] at hC
        clear ha hbb hle
        go_wp2_with fail
        refine hC.mono ?_; rintro e w1 ⟨rfl, hb1'⟩
        have hb1 := hb.trans (hb1'.mono hb.size)
        have hown1 := hown.below hb1'
        have hG1 := hGr.below hb1'
        clear hb1' hC hc hb hGr
        cases two with
        | false =>
          go_wp2_with fail
          refine (number_any a w1 hG1 (by omega)).mono ?_; rintro e w2 ⟨rfl, hb2⟩
          have hG2 := hG1.below hb2
          go_wp2_with fail
          refine (number_any a w2 hG2 (by omega)).mono ?_; rintro e w3 ⟨rfl, hb3⟩
          have hb4 : Below w0.heap.size w0 w3 := hb1.trans ((hb2.trans (hb3.mono hb2.size)).mono hb1.size)
          have hown3 := (hown1.below hb2).below hb3
          clear hb1 hb2 hb3 hown1 hG1 hG2
          have Hsp := Lib.hid (show spanF ps[k] = (((numberF a).1, (numberF a).1), (numberF a).2 && (numberF a).2) by rw [Hp.out, spanF, Ha.out, Hb.out, Ht.out]; rfl)
          generalize numberF a = na at Hsp
          obtain ⟨n1, o1⟩ := na
          cases o1 with
          | false =>
            have Hno := Lib.hid (show (spanF ps[k]).2 = false by rw [Hsp.out]; rfl)
            go_wp2
            go_ret2
            exact ⟨_, _, rfl, by rw [Hf'.out, if_neg (by rw [all_notL hlt Hno.out]; simp)]; exact ⟨rfl, rfl⟩, hb0.trans (hb4.mono hb0.size)⟩
          | true =>
            have Hyes := Lib.hid (show (spanF ps[k]).2 = true by rw [Hsp.out]; rfl)
            have Hmap := Lib.hid (show (ps.map fun p => (spanF p).1).take (k + 1) = (ps.map fun p => (spanF p).1).take k ++ [(n1, n1)] by rw [List.take_succ_eq_append_getElem (by simpa using hlt), List.getElem_map, Hsp.out])
            go_wp2_with (at_builtin; refine app_g (f := spanCells) (size := 2) (fun _ => rfl) span_one 8 (.agg #[.int .u32 0, .int .u32 0]) info_span rfl (by decide) (by decide) Tryz.underlying35 rfl _ _ rfl (n1, n1) rfl (hown3.alloc _) w3.heap.size rfl ?c1y ?c2y ?c3y ?my)
            case c1y => exact Blk.new _ _ _
            case c2y => simp; omega
            case c3y => have := hb4.size; simp; omega
            case my =>
              intro v' w4 hown4 hg4
              have hb5 := hown3.grown hb4 _ hb4.size hg4
              clear hg4 hown3 hown hb4
              go_wp2
              go_roundw
              case rel => exact ⟨k + 1, by omega, by go_num, all_snocL hlt HA.out Hyes.out, by rw [Hmap.out]; exact hown4, hb5⟩
              case measure => simp [intOf]; omega
        | true =>
          go_wp2_with fail
          refine (number_any a w1 hG1 (by omega)).mono ?_; rintro e w2 ⟨rfl, hb2⟩
          have hG2 := hG1.below hb2
          go_wp2_with fail
          refine (number_any b w2 hG2 (by omega)).mono ?_; rintro e w3 ⟨rfl, hb3⟩
          have hb4 : Below w0.heap.size w0 w3 := hb1.trans ((hb2.trans (hb3.mono hb2.size)).mono hb1.size)
          have hown3 := (hown1.below hb2).below hb3
          clear hb1 hb2 hb3 hown1 hG1 hG2
          have Hsp := Lib.hid (show spanF ps[k] = (((numberF a).1, (numberF b).1), (numberF a).2 && (numberF b).2) by rw [Hp.out, spanF, Ha.out, Hb.out, Ht.out]; rfl)
          generalize numberF a = na at Hsp
          generalize numberF b = nb at Hsp
          obtain ⟨n1, o1⟩ := na
          obtain ⟨n2, o2⟩ := nb
          cases o1 with
          | false =>
            have Hno := Lib.hid (show (spanF ps[k]).2 = false by rw [Hsp.out]; rfl)
            go_wp2
            go_ret2
            exact ⟨_, _, rfl, by rw [Hf'.out, if_neg (by rw [all_notL hlt Hno.out]; simp)]; exact ⟨rfl, rfl⟩, hb0.trans (hb4.mono hb0.size)⟩
          | true =>
            cases o2 with
            | false =>
              have Hno := Lib.hid (show (spanF ps[k]).2 = false by rw [Hsp.out]; rfl)
              go_wp2
              go_ret2
              exact ⟨_, _, rfl, by rw [Hf'.out, if_neg (by rw [all_notL hlt Hno.out]; simp)]; exact ⟨rfl, rfl⟩, hb0.trans (hb4.mono hb0.size)⟩
            | true =>
              have Hyes := Lib.hid (show (spanF ps[k]).2 = true by rw [Hsp.out]; rfl)
              have Hmap := Lib.hid (show (ps.map fun p => (spanF p).1).take (k + 1) = (ps.map fun p => (spanF p).1).take k ++ [(n1, n2)] by rw [List.take_succ_eq_append_getElem (by simpa using hlt), List.getElem_map, Hsp.out])
              go_wp2_with (at_builtin; refine app_g (f := spanCells) (size := 2) (fun _ => rfl) span_one 8 (.agg #[.int .u32 0, .int .u32 0]) info_span rfl (by decide) (by decide) Tryz.underlying35 rfl _ _ rfl (n1, n2) rfl (hown3.alloc _) w3.heap.size rfl ?c1z ?c2z ?c3z ?mz)
              case c1z => exact Blk.new _ _ _
              case c2z => simp; omega
              case c3z => have := hb4.size; simp; omega
              case mz =>
                intro v' w4 hown4 hg4
                have hb5 := hown3.grown hb4 _ hb4.size hg4
                clear hg4 hown3 hown hb4
                go_wp2
                go_roundw
                case rel => exact ⟨k + 1, by omega, by go_num, all_snocL hlt HA.out Hyes.out, by rw [Hmap.out]; exact hown4, hb5⟩
                case measure => simp [intOf]; omega
      · have hall2 : ps.all (fun p => (spanF p).2) = true := by have := HA.out; rwa [List.take_of_length_le (by omega)] at this
        have Hf2 := Lib.hid (Hf'.out.trans (if_pos hall2)); clear Hf' hall2
        rw [List.take_of_length_le (by simp; omega)] at hown
        go_wp2
        go_ret2
        exact ⟨_, _, rfl, by rw [Hf2.out]; exact ⟨hown.mono hb0.size, rfl⟩, hb0.trans (hb.mono hb0.size)⟩
end Go.Proofs.YtilcfpaimhiofaaGreatDoor
