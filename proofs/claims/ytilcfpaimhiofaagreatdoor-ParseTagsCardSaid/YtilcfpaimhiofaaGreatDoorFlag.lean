/- flag.Parse: what it computes. -/
import Derived.Test.YtilcfpaimhiofaaGreatDoorFlower
import Derived.Test.YtilcfpaimhiofaaGreatDoorRow
import Derived.Deep.RegionWith
namespace Go.Proofs.YtilcfpaimhiofaaGreatDoor
open Go.RowKit

def lowL (s : ByteArray) : List UInt8 := s.data.toList.map lowB

theorem chain2 {w w1 w2 : World} (h1 : Below w.drew.heap.size w.drew w1) (h2 : Below w1.heap.size w1 w2) : Below w.heap.size w w2 :=
  (((Below.refl _ _).drew).trans h1).trans (h2.mono h1.size)
theorem below_cell {W W' : World} {B : Nat} {s : ByteArray} (hb : Below W.heap.size W W') (hc : W.cell? ⟨B, 0, none⟩ = some (.string s)) : W'.cell? ⟨B, 0, none⟩ = some (.string s) :=
  (hb.cell (World.block_lt_of_cell? W ⟨B, 0, none⟩ hc)).trans hc

set_option maxHeartbeats 1000000 in
set_option maxRecDepth 100000 in
theorem flagfn_any (n s : ByteArray) (B : Nat) (w : World) (hn : n.size ≤ 4294967280) (hs : s.size ≤ 4294967280) (hc : w.cell? ⟨B, 0, none⟩ = some (.string s)) :
    Calls Tryz.prog 116 #[.string n, .pointer (some ⟨B, 0, none⟩)] w fun e w' => e = .returned (.bool (lowL n == lowL s)) ∧ Below w.heap.size w w' := by
  have hB := World.block_lt_of_cell? w ⟨B, 0, none⟩ hc
  go_enter Tryz.func116, Tryz.ntmps116
  go_wp2_with fail
  go_region_with (first | (go_at_call_of 117 (Value.string n); refine (flower_any n _ hn).mono ?_; rintro e w1 ⟨rfl, hb1⟩; have hc1 := below_cell hb1 (by assumption)) | (go_at_call_of 117 (Value.string s); refine (flower_any s _ hs).mono ?_; rintro e w2 ⟨rfl, hb2⟩; have hc2 := below_cell hb2 (by assumption)))
  all_goals (try go_wp2)
  all_goals go_ret
  all_goals first
    | exact ⟨ret_bool (by simp [lowL]), chain2 hb1 hb2⟩
    | exact ⟨ret_bool (by simp [lowL]), chain2 hb2 hb1⟩

/-- the first place at which p holds, or -1 -/
def idxL {α : Type} (p : α → Bool) (l : List α) : Int := match l.findIdx? p with | some i => i | none => -1
theorem idxL_hit {α : Type} {p : α → Bool} {l : List α} {k : Nat} (h : k < l.length) (ha : (l.take k).all (fun x => !p x) = true) (hp : p l[k] = true) : idxL p l = k := by
  have e : l.findIdx? p = some k := by
    rw [List.findIdx?_eq_some_iff_getElem]
    refine ⟨h, hp, fun j hj => ?_⟩
    have := List.all_eq_true.1 ha l[j] (by rw [List.mem_take_iff_getElem]; exact ⟨j, by omega, rfl⟩)
    simpa using this
  rw [idxL, e]
theorem idxL_miss {α : Type} {p : α → Bool} {l : List α} (ha : l.all (fun x => !p x) = true) : idxL p l = -1 := by
  have e : l.findIdx? p = none := by
    rw [List.findIdx?_eq_none_iff]
    intro x hx
    have := List.all_eq_true.1 ha x hx
    simpa using this
  rw [idxL, e]
theorem idxL_bd {α : Type} (p : α → Bool) (l : List α) : -1 ≤ idxL p l ∧ idxL p l < l.length := by
  unfold idxL
  split
  · rename_i i h
    rw [List.findIdx?_eq_some_iff_getElem] at h
    obtain ⟨h, _⟩ := h
    omega
  · omega
theorem all_snocA {α : Type} {p : α → Bool} {l : List α} {k : Nat} (h : k < l.length) (ha : (l.take k).all p = true) (hp : p l[k] = true) : (l.take (k + 1)).all p = true := by
  rw [List.take_succ_eq_append_getElem h, List.all_append, ha]; simpa using hp

set_option maxHeartbeats 1000000 in
set_option maxRecDepth 100000 in
theorem flagidx_any (b cap B : Nat) (ps : List ByteArray) (s : ByteArray) (w : World) (hs : s.size ≤ 4294967280) (hp : ∀ p ∈ ps, p.size ≤ 4294967280) (hl : ps.length ≤ 1000) (hb0 : ∀ j (h : j < ps.length), w.cell? ⟨b, j, none⟩ = some (.string ps[j])) (hc : w.cell? ⟨B, 0, none⟩ = some (.string s)) (hbw : b < w.heap.size) :
    Calls Tryz.prog 114 #[.slice (some ⟨b, 0, none⟩) ps.length cap, .func (.func 116) #[] #[.pointer (some ⟨B, 0, none⟩)]] w fun e w' => e = .returned (.int .i64 (idxL (fun n => lowL n == lowL s) ps)) ∧ Below w.heap.size w w' := by
  have HC := Lib.hid hb0; clear hb0
  have HP := Lib.hid hp; clear hp
  go_enter Tryz.func114, Tryz.ntmps114
  go_wp2
  go_loopw [8] (fun i wr => ∃ k : Nat, k ≤ ps.length ∧ i = .int .i64 k ∧ (ps.take k).all (fun n => !(lowL n == lowL s)) = true ∧ Below w.heap.size w wr) (fun i _ => ps.length - (intOf i).toNat)
  case atStart => exact ⟨0, Nat.zero_le _, rfl, rfl, Below.refl _ _⟩
  case round =>
    obtain ⟨k, hk, rfl, hall, hb⟩ := hrel
    have HA := Lib.hid hall; clear hall
    by_cases hlt : k < ps.length
    · have hck : wr.cell? ⟨b, k, none⟩ = some (.string ps[k]) := (hb.cell (p := ⟨b, k, none⟩) hbw).trans (HC.out k hlt)
      have hcr : wr.cell? ⟨B, 0, none⟩ = some (.string s) := below_cell hb hc
      have hF := flagfn_any ps[k] s B wr (HP.out _ (List.getElem_mem hlt)) hs hcr
      cases hq : (lowL ps[k] == lowL s) with
      | true =>
        rw [hq] at hF
        have Hq := Lib.hid hq; clear hq
        go_wp2_with fail
        refine hF.mono ?_; rintro e w1 ⟨rfl, hb1⟩
        go_wp2
        go_ret
        exact ⟨ret_int (by rw [idxL_hit hlt HA.out Hq.out]), hb.trans (hb1.mono hb.size)⟩
      | false =>
        rw [hq] at hF
        have Hq := Lib.hid hq; clear hq
        go_wp2_with fail
        refine hF.mono ?_; rintro e w1 ⟨rfl, hb1⟩
        have hb2 := hb.trans (hb1.mono hb.size)
        clear hb hb1 hck hcr hF
        go_wp2
        go_roundw
        case rel => exact ⟨k + 1, by omega, by go_num, all_snocA hlt HA.out (by rw [Hq.out]; rfl), hb2⟩
        case measure => simp [intOf]; omega
    · go_wp2
      go_ret
      exact ⟨ret_int (by rw [idxL_miss (by have := HA.out; rwa [List.take_of_length_le (by omega)] at this)]), hb⟩
end Go.Proofs.YtilcfpaimhiofaaGreatDoor
