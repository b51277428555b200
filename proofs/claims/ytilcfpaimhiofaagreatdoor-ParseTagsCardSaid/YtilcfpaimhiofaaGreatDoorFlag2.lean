/- flag.Parse: what it computes. -/
import Derived.Test.YtilcfpaimhiofaaGreatDoorFlag
namespace Go.Proofs.YtilcfpaimhiofaaGreatDoor
open Go.RowKit

def strCells (s : ByteArray) : List Value := [.string s]
def flagNames : List ByteArray := [⟨#[92, 83, 101, 101, 110]⟩, ⟨#[92, 65, 110, 115, 119, 101, 114, 101, 100]⟩, ⟨#[92, 70, 108, 97, 103, 103, 101, 100]⟩, ⟨#[92, 68, 101, 108, 101, 116, 101, 100]⟩, ⟨#[92, 68, 114, 97, 102, 116]⟩]

set_option maxRecDepth 100000 in
theorem fnames_any (w : World) :
    Calls Tryz.prog 115 #[] w fun e w' => e = .returned (.slice (some ⟨w.heap.size, 0, none⟩) 5 5) ∧ w' = w.alloc (.cells (flagNames.map Value.string).toArray 9) := by
  go_enter Tryz.func115, Tryz.ntmps115
  go_wp2
  go_ret
  exact ⟨rfl, rfl⟩
def flagIdx (s : ByteArray) : Int := idxL (fun n => lowL n == lowL s) flagNames
def orBit (f : Int) (i : Int) : Int := ((f.toNat ||| (1 <<< i.toNat) : Nat) : Int)
def flagsL : List ByteArray → Int → Option Int
  | [], f => some f
  | s :: r, f => if flagIdx s < 0 then none else flagsL r (orBit f (flagIdx s))

theorem or_tab : ∀ g : Fin 32, ∀ n : Fin 5, bits BinOp.or IntKind.i64 (g.val : Int) (wrap64 (2 ^ n.val)) = orBit (g.val : Int) (n.val : Int) ∧ 0 ≤ orBit (g.val : Int) (n.val : Int) ∧ orBit (g.val : Int) (n.val : Int) < 32 := by decide +kernel
theorem or_at {g n : Nat} (hg : g < 32) (hn : n < 5) : bits BinOp.or IntKind.i64 (g : Int) (wrap64 (2 ^ n)) = orBit (g : Int) (n : Int) ∧ 0 ≤ orBit (g : Int) (n : Int) ∧ orBit (g : Int) (n : Int) < 32 := or_tab ⟨g, hg⟩ ⟨n, hn⟩

def flagsV : Option Int → Ending
  | none => .returned (.tuple #[.int .i64 0, .bool false])
  | some f => .returned (.tuple #[.int .i64 f, .bool true])

set_option maxHeartbeats 1000000 in
set_option maxRecDepth 100000 in
theorem flagparse_any (v : Value) (ls : List ByteArray) (w : World) (hv : RowAt strCells 1 w v ls) (hs : ∀ s ∈ ls, s.size ≤ 4294967280) (hlen : ls.length ≤ 4294967280) :
    Calls Tryz.prog 70 #[v] w fun e w' => e = flagsV (flagsL ls 0) ∧ Below w.heap.size w w' := by
  have Hs := Lib.hid hs; clear hs
  have hmf : ∀ (fn : Fn) (first cap : Array Value) (w : World), (Instr.makeFunc fn first cap).run Tryz.prog w = .ok (.func fn first cap) w := fun _ _ _ _ => rfl
  obtain ⟨va, vc, rfl⟩ := hv.shape
  go_enter Tryz.func70, Tryz.ntmps70
  go_wp2
  go_loopw [4, 10] (fun fv i wr => ∃ (k : Nat) (f : Int), k ≤ ls.length ∧ i = .int .i64 k ∧ fv = .int .i64 f ∧ 0 ≤ f ∧ f < 32 ∧ flagsL ls 0 = flagsL (ls.drop k) f ∧ Below w.heap.size w wr) (fun _ i _ => ls.length - (intOf i).toNat)
  case atStart => exact ⟨0, 0, Nat.zero_le _, rfl, rfl, by omega, by omega, rfl, Below.refl _ _⟩
  case round =>
    obtain ⟨k, f, hk, rfl, rfl, hf0, hf1, hq, hb⟩ := hrel
    have Hq := Lib.hid hq; clear hq
    by_cases hlt : k < ls.length
    · rcases hv with ⟨he, _⟩ | ⟨b, off, cap, hve, _, _, hcell⟩
      · rw [he] at hlt; simp at hlt
      · simp only [Value.slice.injEq, true_and] at hve
        obtain ⟨rfl, rfl⟩ := hve
        have hc1 := hcell k hlt 0 (.string ls[k]) rfl
        have hc2 : wr.cell? ⟨b, off + k, none⟩ = some (.string ls[k]) := by
          have h := (hb.cell (p := ⟨b, off + 1 * k + 0, none⟩) (World.block_lt_of_cell? w _ hc1)).trans hc1
          simpa using h
        have hN := fnames_any (wr.alloc (.cells #[.string ls[k]] 9))
        clear hcell hc1
        have hsz : (ls[k]).size ≤ 4294967280 := Hs.out _ (List.getElem_mem hlt)
        have hn1 : ∀ j (h : j < flagNames.length), ((wr.alloc (.cells #[.string ls[k]] 9)).alloc (.cells (flagNames.map Value.string).toArray 9)).cell? ⟨wr.heap.size + 1, j, none⟩ = some (.string flagNames[j]) := fun j h => by
          have hB := Blk.new (wr.alloc (.cells #[.string ls[k]] 9)) (flagNames.map Value.string).toArray 9
          have e : (wr.alloc (.cells #[.string ls[k]] 9)).heap.size = wr.heap.size + 1 := by simp
          rw [e] at hB
          rw [hB.cell j]; simp [h]
        have hn2 : ((wr.alloc (.cells #[.string ls[k]] 9)).alloc (.cells (flagNames.map Value.string).toArray 9)).cell? ⟨wr.heap.size, 0, none⟩ = some (.string ls[k]) := by
          rw [World.cell?_alloc_old _ _ _ (by simp)]; exact cell_new1 _ _ _
        have hI := flagidx_any (wr.heap.size + 1) 5 wr.heap.size flagNames ls[k] _ hsz (by decide) (by decide) hn1 hn2 (by simp)
        have hb0 : Below w.heap.size w ((wr.alloc (.cells #[.string ls[k]] 9)).alloc (.cells (flagNames.map Value.string).toArray 9)) := (hb.alloc hb.size _).alloc (by have := hb.size; simp; omega) _
        clear hn1 hn2
        generalize hw0 : (wr.alloc (.cells #[.string ls[k]] 9)).alloc (.cells (flagNames.map Value.string).toArray 9) = w0 at hI hb0 hN
        have Hw0 := Lib.hid hw0; clear hw0
        have hfi : idxL (fun n => lowL n == lowL ls[k]) flagNames = flagIdx ls[k] := rfl
        rw [hfi] at hI
        simp only [show flagNames.length = 5 from rfl] at hI
        have hbd : -1 ≤ flagIdx ls[k] ∧ flagIdx ls[k] < 5 := idxL_bd _ flagNames
        have hst : flagsL (ls.drop k) f = if flagIdx ls[k] < 0 then none else flagsL (ls.drop (k + 1)) (orBit f (flagIdx ls[k])) := by
          rw [List.drop_eq_getElem_cons hlt]; rfl
        have Hst := Lib.hid hst; clear hst hfi
        generalize flagIdx ls[k] = i at hI hbd Hst
        go_wp2_with fail
        refine hN.mono ?_; rintro e w1 ⟨rfl, hw1⟩
        subst hw1
        clear hN
        go_wp2_with fail
        refine hI.mono ?_; rintro e w2 ⟨rfl, hb2⟩
        have hb3 := hb0.trans (hb2.mono hb0.size)
        clear hb0 hb2 hI hb hc2
        by_cases hi : i < 0
        · go_wp2
          go_ret2
          exact ⟨by rw [Hq.out, Hst.out, if_pos hi]; rfl, hb3⟩
        · have Hst2 := Lib.hid (Hst.out.trans (if_neg hi)); clear Hst
          obtain ⟨n, rfl⟩ : ∃ n : Nat, i = n := ⟨i.toNat, by omega⟩
          obtain ⟨g, rfl⟩ : ∃ g : Nat, f = g := ⟨f.toNat, by omega⟩
          have Ho := Lib.hid (or_at (g := g) (n := n) (by omega) (by omega))
          go_wp2
          go_roundw
          case rel => exact ⟨k + 1, orBit g n, by omega, by go_num, by rw [Ho.out.1], Ho.out.2.1, Ho.out.2.2, by rw [Hq.out, Hst2.out], hb3⟩
          case measure => simp [intOf]; omega
    · have e : ls.drop k = [] := List.drop_eq_nil_of_le (by omega)
      have Hq2 := Lib.hid (show flagsL ls 0 = some f by rw [Hq.out, e]; rfl)
      go_wp2
      go_ret2
      exact ⟨by rw [Hq2.out]; rfl, hb⟩
end Go.Proofs.YtilcfpaimhiofaaGreatDoor
