/- Whole blocks: a struct is loaded, stored and handed back as one row of cells. -/
import Derived.Test.YtilcfpaimhiofaaGreatDoorBase
import Derived.Laws.Rows
import Derived.Laws.Tables
import Derived.Deep.WholeRow
namespace Go.Proofs.YtilcfpaimhiofaaGreatDoor
open Go.RowKit

def rowD : TypeDesc → Bool | .struct _ => true | .array _ _ => true | _ => false
/-- a struct's (or an array's) type, of so many cells -/
structure IsRow (ty : TypeId) (n : Nat) : Prop where
  desc : ∃ d, Tryz.prog.underlying ty = some d ∧ rowD d = true
  size : (Tryz.prog.info? ty).map (·.size) = some n

theorem Blk.setRow {w : World} {b : Nat} {cs : Array Value} {t : TypeId} (h : Blk w b cs t) (cs' : Array Value) : Blk (w.setRow b cs') b cs' t := setRow_heap w b cs cs' t _ h
theorem Blk.setRow_other {w : World} {b g : Nat} {cs : Array Value} {t : TypeId} (h : Blk w b cs t) (hg : b ≠ g) (cs' : Array Value) : Blk (w.setRow g cs') b cs t := (Go.setRow_other w g b cs' hg).trans h
theorem Touch.setRow {S : List Nat} {a w : World} (h : Touch S a w) {g : Nat} (hg : g ∈ S ∨ a.heap.size ≤ g) (cs : Array Value) : Touch S a (w.setRow g cs) :=
  ⟨h.os, h.tape, h.output, by simpa using h.size, fun k hk hn => by
    rw [Go.setRow_other w g k cs (by rcases hg with hg | hg; · rintro rfl; exact hn hg
                                     · omega)]
    exact h.block k hk hn⟩

theorem load_blk {ops : Array Oper} {rest : List Oper} {o : Oper} {a : Act} {w : World} {Q : Exit → Act → World → Prop} {ty : TypeId} {x : Operand} {g : Nat} {cs : Array Value} {t : TypeId} (hgd : o.guard = none) (ho : o.op = .load ty x)
    (hx : a.eval x = .pointer (some ⟨g, 0, none⟩)) (hB : Blk w g cs t) (hr : IsRow ty cs.size) (h : wpList Tryz.prog ops Q rest (a.put o.dst (.agg cs)) w) : wpList Tryz.prog ops Q (o :: rest) a w := by
  obtain ⟨⟨d, hd, hd2⟩, hi⟩ := hr
  exact wpList_load_row hgd ty x ho g hx t cs (0, 0) d hB hd (by cases d <;> simp_all [rowD]) hi h
theorem store_blk {ops : Array Oper} {rest : List Oper} {o : Oper} {a : Act} {w : World} {Q : Exit → Act → World → Prop} {ty : TypeId} {x y : Operand} {g : Nat} {cs cells : Array Value} {t : TypeId} (hgd : o.guard = none) (ho : o.op = .store ty x y)
    (hx : a.eval x = .pointer (some ⟨g, 0, none⟩)) (hy : a.eval y = .agg cells) (hB : Blk w g cs t) (hr : IsRow ty cells.size) (hs : cs.size = cells.size) (h1 : cells.all (·.oneCell') = true)
    (h : wpList Tryz.prog ops Q rest (a.put o.dst undef) (w.setRow g cells)) : wpList Tryz.prog ops Q (o :: rest) a w :=
  wpList_store_row hgd ty x y ho g cells hx hy t cs hB hr.size hs h1 h

/-- the first store into a block that was just made -/
theorem store_new {ops : Array Oper} {rest : List Oper} {o : Oper} {a : Act} {w : World} {Q : Exit → Act → World → Prop} {ty : TypeId} {x y : Operand} {z cells : Array Value} {t : TypeId} (hgd : o.guard = none) (ho : o.op = .store ty x y)
    (hx : a.eval x = .pointer (some ⟨w.heap.size, 0, none⟩)) (hy : a.eval y = .agg cells) (hr : IsRow ty cells.size) (hs : z.size = cells.size) (h1 : cells.all (·.oneCell') = true)
    (h : wpList Tryz.prog ops Q rest (a.put o.dst undef) (w.alloc (.cells cells t))) : wpList Tryz.prog ops Q (o :: rest) a (w.alloc (.cells z t)) := by
  refine store_blk hgd ho hx hy (Blk.new w z t) hr hs h1 ?_
  rw [World.setRow_alloc_new]
  exact h

theorem run_loadVar_blk {w : World} {g : Nat} {t ty : TypeId} {cs : Array Value} (hB : Blk w g cs t) (hr : IsRow ty cs.size) : (loadVar ty ⟨g, 0, none⟩).run Tryz.prog w = .ok (.agg cs) w := by
  obtain ⟨⟨d, hd, hd2⟩, hi⟩ := hr
  exact run_loadVar_row w g t ty cs (0, 0) d hB hd (by cases d <;> simp_all [rowD]) hi
/-- one result, a struct -/
theorem results_c {fn : Func} {p : Tmp} {ty : TypeId} (h : fn.results = #[.cell p ty]) {tmps : Array Value} {w : World} {g : Nat} {t : TypeId} {cs : Array Value} (hp : tmps.getD p undef = .pointer (some ⟨g, 0, none⟩)) (hB : Blk w g cs t) (hr : IsRow ty cs.size) :
    (results fn tmps).run Tryz.prog w = .ok (.agg cs) w := by
  have hp' : tmps[p]?.getD undef = .pointer (some ⟨g, 0, none⟩) := by simpa using hp
  simp [results, h, hp', asAddr, run_loadVar_blk hB hr]
/-- a struct and a value -/
theorem results_cs {fn : Func} {p q : Tmp} {ty : TypeId} (h : fn.results = #[.cell p ty, .tmp q]) {tmps : Array Value} {w : World} {g : Nat} {t : TypeId} {cs : Array Value} (hp : tmps.getD p undef = .pointer (some ⟨g, 0, none⟩)) (hB : Blk w g cs t) (hr : IsRow ty cs.size) :
    (results fn tmps).run Tryz.prog w = .ok (.tuple #[.agg cs, tmps.getD q undef]) w := by
  have hp' : tmps[p]?.getD undef = .pointer (some ⟨g, 0, none⟩) := by simpa using hp
  simp [results, h, hp', asAddr, run_loadVar_blk hB hr]
/-- a struct and two values -/
theorem results_css {fn : Func} {p q r : Tmp} {ty : TypeId} (h : fn.results = #[.cell p ty, .tmp q, .tmp r]) {tmps : Array Value} {w : World} {g : Nat} {t : TypeId} {cs : Array Value} (hp : tmps.getD p undef = .pointer (some ⟨g, 0, none⟩)) (hB : Blk w g cs t) (hr : IsRow ty cs.size) :
    (results fn tmps).run Tryz.prog w = .ok (.tuple #[.agg cs, tmps.getD q undef, tmps.getD r undef]) w := by
  have hp' : tmps[p]?.getD undef = .pointer (some ⟨g, 0, none⟩) := by simpa using hp
  simp [results, h, hp', asAddr, run_loadVar_blk hB hr]
/-- two structs -/
theorem results_cc {fn : Func} {p q : Tmp} {ty tz : TypeId} (h : fn.results = #[.cell p ty, .cell q tz]) {tmps : Array Value} {w : World} {g k : Nat} {t u : TypeId} {cs ds : Array Value} (hp : tmps.getD p undef = .pointer (some ⟨g, 0, none⟩)) (hB : Blk w g cs t) (hr : IsRow ty cs.size)
    (hq : tmps.getD q undef = .pointer (some ⟨k, 0, none⟩)) (hC : Blk w k ds u) (hs : IsRow tz ds.size) :
    (results fn tmps).run Tryz.prog w = .ok (.tuple #[.agg cs, .agg ds]) w := by
  have hp' : tmps[p]?.getD undef = .pointer (some ⟨g, 0, none⟩) := by simpa using hp
  have hq' : tmps[q]?.getD undef = .pointer (some ⟨k, 0, none⟩) := by simpa using hq
  simp [results, h, hp', hq', asAddr, run_loadVar_blk hB hr, run_loadVar_blk hC hs]
end Go.Proofs.YtilcfpaimhiofaaGreatDoor
