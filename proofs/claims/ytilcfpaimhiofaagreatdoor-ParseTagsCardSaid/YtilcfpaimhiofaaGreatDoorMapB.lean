/- A string's bytes in a row of the call's own, changed in place. -/
import Derived.Test.YtilcfpaimhiofaaGreatDoorWrap
namespace Go.Proofs.YtilcfpaimhiofaaGreatDoor
open Go.RowKit

/-- Block B holds (first) these bytes; it bears the mark of a conversion. -/
def MapRow (w : World) (B : Nat) (l : List UInt8) : Prop :=
  ∃ cs : Array Value, w.heap[B]? = some (.cells cs 5 (cs.size, cs.size + 1)) ∧ l.length ≤ cs.size ∧ ∀ j (h : j < l.length), cs[j]? = some (.int .u8 (l[j].toNat : Int))

theorem MapRow.start (w : World) (s : ByteArray) : MapRow (Lib.bytesWorld w 5 s) w.heap.size s.data.toList := by
  refine ⟨_, Lib.bytesWorld_at_new w 5 s, ?_, fun j h => ?_⟩
  · simp [Lib.bytesCells]
  · have h' : j < s.size := by rwa [size_toList] at h
    have h'' : j < s.data.size := h'
    simp only [Lib.bytesCells, Array.getElem?_append, Array.size_map]
    rw [if_pos h'', Array.getElem?_map, Array.getElem?_eq_getElem h'']
    rfl
theorem MapRow.lt {w : World} {B : Nat} {l : List UInt8} (h : MapRow w B l) : B < w.heap.size := by
  obtain ⟨cs, h1, _⟩ := h
  exact (Array.getElem?_eq_some_iff.1 h1).1
theorem MapRow.cell {w : World} {B : Nat} {l : List UInt8} (h : MapRow w B l) {j : Nat} (hj : j < l.length) : w.cell? ⟨B, j, none⟩ = some (.int .u8 (l[j].toNat : Int)) := by
  obtain ⟨cs, h1, h2, h3⟩ := h
  rw [cell_of_row w B j cs _ _ h1]; exact h3 j hj
theorem MapRow.frozen {w : World} {B : Nat} {l : List UInt8} (h : MapRow w B l) {j : Nat} (hj : j < l.length) : w.frozen? ⟨B, j, none⟩ = false := by
  obtain ⟨cs, h1, h2, h3⟩ := h
  simp [World.frozen?, h1]; omega
theorem MapRow.set {w : World} {B : Nat} {l : List UInt8} (h : MapRow w B l) {j : Nat} (_hj : j < l.length) (c : UInt8) : MapRow (w.setCell ⟨B, j, none⟩ (.int .u8 (c.toNat : Int))) B (l.set j c) := by
  obtain ⟨cs, h1, h2, h3⟩ := h
  refine ⟨cs.setIfInBounds j (.int .u8 (c.toNat : Int)), ?_, ?_, fun i hi => ?_⟩
  · simp only [World.setCell, Array.getElem?_modify, h1]
    simp
  · simpa using h2
  · have hi' : i < l.length := by simpa using hi
    rw [Array.getElem?_setIfInBounds, List.getElem_set]
    by_cases e : j = i
    · subst e; simp; omega
    · simp [e, h3 i hi']
theorem MapRow.at {w : World} {B : Nat} {l : List UInt8} (h : MapRow w B l) {cap : Nat} (h1 : l.length ≤ cap) (h2 : cap ≤ maxLen) : BytesAt w (.slice (some ⟨B, 0, none⟩) l.length cap) l :=
  .inr ⟨B, 0, cap, rfl, h1, h2, fun j hj => by rw [Nat.zero_add]; exact h.cell hj⟩

/-- the row behind k rounds -/
def mapTo (f : UInt8 → UInt8) (l : List UInt8) (k : Nat) : List UInt8 := (l.take k).map f ++ l.drop k
theorem mapTo_length (f : UInt8 → UInt8) (l : List UInt8) (k : Nat) : (mapTo f l k).length = l.length := by simp [mapTo]; omega
theorem mapTo_zero (f : UInt8 → UInt8) (l : List UInt8) : mapTo f l 0 = l := by simp [mapTo]
theorem mapTo_all (f : UInt8 → UInt8) (l : List UInt8) {k : Nat} (h : l.length ≤ k) : mapTo f l k = l.map f := by simp [mapTo, List.take_of_length_le h, List.drop_eq_nil_of_le h]
theorem mapTo_get (f : UInt8 → UInt8) (l : List UInt8) {k : Nat} (h : k < l.length) : (mapTo f l k)[k]'(by rw [mapTo_length]; exact h) = l[k] := by
  have hl : ((l.take k).map f).length = k := by simp; omega
  apply Option.some.inj
  rw [← List.getElem?_eq_getElem, ← List.getElem?_eq_getElem]
  rw [mapTo, List.getElem?_append_right (by omega), hl, Nat.sub_self, List.getElem?_drop, Nat.add_zero]
theorem mapTo_step (f : UInt8 → UInt8) (l : List UInt8) {k : Nat} (h : k < l.length) : (mapTo f l k).set k (f l[k]) = mapTo f l (k + 1) := by
  have hl : ((l.take k).map f).length = k := by simp; omega
  simp only [mapTo]
  rw [List.set_append_right _ _ (by omega), hl, Nat.sub_self, List.drop_eq_getElem_cons h, List.set_cons_zero, List.take_succ_eq_append_getElem h]
  simp only [List.map_append, List.map_cons, List.map_nil, List.append_assoc, List.singleton_append]
theorem mapTo_same (f : UInt8 → UInt8) (l : List UInt8) {k : Nat} (h : k < l.length) (hf : f l[k] = l[k]) : mapTo f l k = mapTo f l (k + 1) := by
  rw [← mapTo_step f l h, hf]
  have := mapTo_get f l h
  conv => rhs; rw [← this]
  simp
end Go.Proofs.YtilcfpaimhiofaaGreatDoor
