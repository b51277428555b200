/- cubbylaw16.awake: it is true. -/
import Derived.Test.YtilcfpaimhiofaaGreatDoorP12
import Derived.Test.YtilcfpaimhiofaaGreatDoorP13
import Derived.Lib.SlBytesConst
namespace Go.Proofs.YtilcfpaimhiofaaGreatDoor
open Go.RowKit

set_option maxHeartbeats 2000000 in
set_option maxRecDepth 100000 in
theorem awake_any (w : World) (hG : Glob w) :
    Calls Tryz.prog 10 #[] w fun e w' => e = .returned (.bool true) ∧ Below w.heap.size w w' := by
  have hA : Below w.heap.size w (w.alloc (.cells #[.int .u8 97, .int .u8 32, .int .u8 110, .int .u8 111, .int .u8 111, .int .u8 112] 5 (6, 7))) := (Below.refl _ _).alloc (Nat.le_refl _) _
  have hB : BytesAt (w.alloc (.cells #[.int .u8 97, .int .u8 32, .int .u8 110, .int .u8 111, .int .u8 111, .int .u8 112] 5 (6, 7))) (.slice (some ⟨w.heap.size, 0, none⟩) 6 6) noopL := by
    refine .inr ⟨w.heap.size, 0, 6, rfl, by decide, by decide, fun j hj => ?_⟩
    rw [Nat.zero_add, cell_of_row _ _ _ _ _ (6, 7) (heap_alloc_new w _)]
    match j, hj with
    | 0, _ => rfl
    | 1, _ => rfl
    | 2, _ => rfl
    | 3, _ => rfl
    | 4, _ => rfl
    | 5, _ => rfl
  have hP := parse_any _ _ _ (hG.below hA) hB (by decide)
  have kc := fun (w : World) (C : Array Value) (n c : Nat) => Lib.run_convert_bytes_const (P := Tryz.prog) w 33 5 C n c Tryz.underlying33 Tryz.underlying5
  go_enter Tryz.func10, Tryz.ntmps10
  go_wp2_with fail
  refine hP.mono ?_; rintro e w1 ⟨cs, ok, rfl, hca, _, hn, hb⟩
  obtain ⟨rfl, h0, h1⟩ := hn rfl
  have hc0 : (w1.alloc (.cells cs 38)).cell? ⟨w1.heap.size, 0, none⟩ = some (.string ⟨#[97]⟩) := ((Blk.new w1 cs _).cell 0).trans h0
  have hc1 : (w1.alloc (.cells cs 38)).cell? ⟨w1.heap.size, 1, none⟩ = some (.string ⟨#[78, 79, 79, 80]⟩) := ((Blk.new w1 cs _).cell 1).trans h1
  clear h0 h1 hP hn
  go_wp2_with (refine store_new rfl rfl rfl rfl (by rw [hca.1]; exact row_cmd) (by rw [hca.1]; rfl) hca.one ?_)
  go_ret
  exact ⟨rfl, (hA.trans (hb.mono hA.size)).alloc (by have := hA.size; have := hb.size; omega) _⟩
end Go.Proofs.YtilcfpaimhiofaaGreatDoor
