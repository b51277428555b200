/- The library's contracts in the words of this seat: what the package-level variables hold ('Glob'), and each call with one post for every string. -/
import Derived.Test.YtilcfpaimhiofaaGreatDoorBase
import Derived.Test.YtilcfpaimhiofaaGreatDoorShelf
import Derived.Shelf.Strings.SlTrimAscii
namespace Go.Proofs.YtilcfpaimhiofaaGreatDoor
open Go.RowKit

/-- the package-level variables that the library reads -/
structure Glob (w : World) : Prop where
  ml : ∃ m, w.cell? ⟨0, 0, none⟩ = some (.int .i64 m)
  syn : ∃ t p, w.cell? ⟨2, 0, none⟩ = some (.iface t p)
  ran : ∃ t p, w.cell? ⟨3, 0, none⟩ = some (.iface t p)
  tab : Lib.TabIs Tryz.prog w "internal/strconv.uint64pow10" .u64 Lib.pow10Tab
  size : 9 ≤ w.heap.size

theorem Glob.touch {S : List Nat} {w w' : World} (h : Glob w) (ht : Touch S w w') (hS : ∀ k ∈ S, 9 ≤ k) : Glob w' := by
  obtain ⟨m, hm⟩ := h.ml
  obtain ⟨t, p, hs⟩ := h.syn
  obtain ⟨t2, p2, hr⟩ := h.ran
  refine ⟨⟨m, ht.keeps hm ?_⟩, ⟨t, p, ht.keeps hs ?_⟩, ⟨t2, p2, ht.keeps hr ?_⟩, ?_, Nat.le_trans h.size ht.size⟩
  case refine_4 =>
    have hb : Below 9 w w' := ⟨ht.os, ht.tape, ht.output, ht.size, fun k hk => ht.block k (by have := h.size; omega) fun hk' => by have := hS k hk'; omega⟩
    exact var?_below hb (show Tryz.prog.globalNamed "internal/strconv.uint64pow10" = some 6 by kernel_rfl) (by decide) h.tab
  all_goals exact fun hk => absurd (hS _ hk) (by decide)
theorem Glob.below {w w' : World} (h : Glob w) (hb : Below w.heap.size w w') : Glob w' := h.touch (Touch.ofBelow hb) (by simp)

/-- what strconv.Atoi gives -/
def atoiV (l : List UInt8) : Int := match Lib.atoiAll l with | .ok v => v | .range => Lib.atoiSat l | _ => 0
def atoiOk (l : List UInt8) : Bool := match Lib.atoiAll l with | .ok _ => true | _ => false
/-- an error value: nil, or not -/
def ErrIs (ok : Bool) (v : Value) : Prop := (ok = true ∧ v = .nilIface) ∨ (ok = false ∧ ∃ t p, v = .iface t p)

theorem atoi_any (s : ByteArray) (w : World) (hG : Glob w) (hs : s.size ≤ 281474976710656) :
    Calls Tryz.prog 104 #[.string s] w fun e w' => ∃ ev, e = .returned (.tuple #[.int .i64 (atoiV s.data.toList), ev]) ∧ ErrIs (atoiOk s.data.toList) ev ∧ Below w.heap.size w w' := by
  obtain ⟨t, p, h2⟩ := hG.syn
  obtain ⟨t3, p3, h3⟩ := hG.ran
  cases hc : Lib.atoiAll s.data.toList with
  | ok v =>
    refine (Tryz.strconv_Atoi_ok s (by omega) v hc w).mono fun e w' ⟨he, hw⟩ => ⟨_, he.trans (by rw [atoiV, hc]), .inl ⟨by rw [atoiOk, hc], rfl⟩, ?_⟩
    rcases hw with rfl | ⟨t, rfl⟩
    · exact Below.refl _ _
    · exact bytesWorld_below _ _ _
  | range =>
    refine (Tryz.strconv_Atoi_range s hs hc _ w h3 (.inr ⟨t3, p3, rfl⟩)).mono fun e w' ⟨N, he, _, _, hb⟩ => ⟨_, he.trans (by rw [atoiV, hc]), .inr ⟨by rw [atoiOk, hc], _, _, rfl⟩, hb⟩
  | _ =>
    refine (Tryz.strconv_Atoi_syntax s hs hc _ w h2 (.inr ⟨t, p, rfl⟩)).mono fun e w' ⟨N, he, _, _, hb⟩ => ⟨_, he.trans (by rw [atoiV, hc]), .inr ⟨by rw [atoiOk, hc], _, _, rfl⟩, hb⟩

theorem cut_any (s sep : ByteArray) (w : World) (hG : Glob w) (hs : s.size < 4294967281) :
    Calls Tryz.prog 22 #[.string s, .string sep] w fun e w' => e = .returned (.tuple #[.string ⟨(Lib.cut s.data.toList sep.data.toList).1.toArray⟩, .string ⟨(Lib.cut s.data.toList sep.data.toList).2.1.toArray⟩, .bool (Lib.cut s.data.toList sep.data.toList).2.2]) ∧ Below w.heap.size w w' := by
  obtain ⟨m, hm⟩ := hG.ml
  exact (Tryz.strings_Cut s sep m w hs hm).mono fun e w' ⟨he, n, hw⟩ => ⟨he, by rw [hw]; exact below_drewN (Below.refl _ _) n⟩

def digitsL : List UInt8 := [48, 49, 50, 51, 52, 53, 54, 55, 56, 57]
theorem trim_digits (s : ByteArray) (w : World) (hs : s.size ≤ 4294967280) :
    Calls Tryz.prog 103 #[.string s, .string ⟨#[48, 49, 50, 51, 52, 53, 54, 55, 56, 57]⟩] w fun e w' => e = .returned (.string ⟨(Lib.trimS s.data.toList digitsL).toArray⟩) ∧ Below w.heap.size w w' :=
  Any.strings_Trim_laid Tryz.lays160 (by kernel_rfl) s ⟨#[48, 49, 50, 51, 52, 53, 54, 55, 56, 57]⟩ w (by omega) (by decide) (ascii_of_all (by decide))
theorem trim_set (s cs : ByteArray) (w : World) (hs : s.size ≤ 4294967280) (hc : cs.size < 4294967281) (ha : cs.data.toList.all (fun b => decide (b.toNat < 128)) = true) :
    Calls Tryz.prog 103 #[.string s, .string cs] w fun e w' => e = .returned (.string ⟨(Lib.trimS s.data.toList cs.data.toList).toArray⟩) ∧ Below w.heap.size w w' :=
  Any.strings_Trim_laid Tryz.lays160 (by kernel_rfl) s cs w (by omega) hc (ascii_of_all ha)
end Go.Proofs.YtilcfpaimhiofaaGreatDoor
