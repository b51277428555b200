/- What the walks of this seat share: the frame of a call that writes to some blocks, slices of bytes that are read, small lemmas on strings and numbers. -/
import Derived.Test.YtilcfpaimhiofaaGreatDoorChecked
import Derived.WalkKit
import Derived.ProofKit
import Derived.OpenShut
import Derived.Lib.Hide
import Derived.Lib.ConvBytes
import Derived.Laws.BytesArg
import Derived.WalkSmall
import Derived.WalkLawsBesides
import Derived.WalkSpells
import Derived.Deep.Light
import Derived.Deep.AppendLies
import Derived.Deep.QuietTactic
import Derived.BigQuiet
namespace Go.Proofs.YtilcfpaimhiofaaGreatDoor
open Go.RowKit

/-- ONE FRAME FOR ALL CALLS: but for the blocks in S, what was there is as it was. -/
structure Touch (S : List Nat) (w w' : World) : Prop where
  os : w'.os = w.os
  tape : w'.tape = w.tape
  output : w'.output = w.output
  size : w.heap.size ≤ w'.heap.size
  block : ∀ k, k < w.heap.size → k ∉ S → w'.heap[k]? = w.heap[k]?

namespace Touch
theorem refl (S : List Nat) (w : World) : Touch S w w := ⟨rfl, rfl, rfl, Nat.le_refl _, fun _ _ _ => rfl⟩
theorem trans {S : List Nat} {a b c : World} (h : Touch S a b) (k : Touch S b c) : Touch S a c :=
  ⟨k.os.trans h.os, k.tape.trans h.tape, k.output.trans h.output, Nat.le_trans h.size k.size, fun i hi hn => (k.block i (Nat.lt_of_lt_of_le hi h.size) hn).trans (h.block i hi hn)⟩
theorem mono {S T : List Nat} {w w' : World} (h : Touch S w w') (hs : ∀ k, k < w.heap.size → k ∈ S → k ∈ T) : Touch T w w' :=
  ⟨h.os, h.tape, h.output, h.size, fun k hk hn => h.block k hk fun hk' => hn (hs k hk hk')⟩
theorem drew {S : List Nat} {a w : World} (h : Touch S a w) : Touch S a w.drew := ⟨h.os, h.tape, h.output, h.size, h.block⟩
theorem drewN {S : List Nat} {a w : World} (h : Touch S a w) (n : Nat) : Touch S a (w.drewN n) := ⟨h.os, h.tape, h.output, h.size, h.block⟩
theorem alloc {S : List Nat} {a w : World} (h : Touch S a w) (o : Obj) : Touch S a (w.alloc o) :=
  h.trans ⟨rfl, rfl, rfl, by simp, fun k hk _ => Below.heap_alloc _ _ _ hk⟩
theorem setCell {S : List Nat} {a w : World} (h : Touch S a w) {p : Addr} (hp : p.block ∈ S ∨ a.heap.size ≤ p.block) (u : Value) : Touch S a (w.setCell p u) :=
  ⟨h.os, h.tape, h.output, by simpa [World.setCell] using h.size, fun k hk hn => by
    rw [Below.heap_setCell _ _ _ _ (by rcases hp with hp | hp; · rintro rfl; exact hn hp
                                       · omega)]
    exact h.block k hk hn⟩
theorem below {S : List Nat} {a w w' : World} (h : Touch S a w) (hb : Below w.heap.size w w') : Touch S a w' :=
  h.trans ⟨hb.os, hb.tape, hb.output, hb.size, fun k hk _ => hb.block k hk⟩
theorem ofBelow {w w' : World} (hb : Below w.heap.size w w') : Touch [] w w' := (refl [] w).below hb
theorem toBelow {w w' : World} (h : Touch [] w w') : Below w.heap.size w w' := ⟨h.os, h.tape, h.output, h.size, fun k hk => h.block k hk (by simp)⟩
/-- a call inside: it writes to blocks of S, or to some that were made since -/
theorem call {S T : List Nat} {a w w' : World} (h : Touch S a w) (k : Touch T w w') (hT : ∀ i ∈ T, i ∈ S ∨ a.heap.size ≤ i) : Touch S a w' :=
  ⟨k.os.trans h.os, k.tape.trans h.tape, k.output.trans h.output, Nat.le_trans h.size k.size, fun i hi hn =>
    (k.block i (Nat.lt_of_lt_of_le hi h.size) fun hi' => by rcases hT i hi' with h' | h'; exact hn h'; omega).trans (h.block i hi hn)⟩
theorem grown {S : List Nat} {a w w' : World} {row : Option Nat} (h : Touch S a w) (hg : w.grownBy w' row) (hr : ∀ k, row = some k → k ∈ S ∨ a.heap.size ≤ k) : Touch S a w' :=
  ⟨hg.os.trans h.os, hg.tape.trans h.tape, hg.output.trans h.output, Nat.le_trans h.size hg.size, fun i hi hn =>
    (hg.block i (Nat.lt_of_lt_of_le hi h.size) fun e => by rcases hr i e.symm with h' | h'; exact hn h'; omega).trans (h.block i hi hn)⟩
theorem cell {S : List Nat} {w w' : World} (h : Touch S w w') {p : Addr} (hp : p.block < w.heap.size) (hn : p.block ∉ S) : w'.cell? p = w.cell? p := World.cell?_of_block (w := w) (h.block p.block hp hn)
theorem frozen {S : List Nat} {w w' : World} (h : Touch S w w') {p : Addr} (hp : p.block < w.heap.size) (hn : p.block ∉ S) : w'.frozen? p = w.frozen? p := World.frozen?_of_block (w := w) (h.block p.block hp hn)
/-- a cell that holds something still holds it -/
theorem keeps {S : List Nat} {w w' : World} (h : Touch S w w') {p : Addr} {v : Value} (hc : w.cell? p = some v) (hn : p.block ∉ S) : w'.cell? p = some v :=
  (h.cell (World.block_lt_of_cell? w p hc) hn).trans hc
end Touch

/-- A slice of bytes that can be read: these bytes. -/
def BytesAt (w : World) (v : Value) (l : List UInt8) : Prop :=
  (l = [] ∧ ∃ c, v = .slice none 0 c) ∨ ∃ b off cap, v = .slice (some ⟨b, off, none⟩) l.length cap ∧ l.length ≤ cap ∧ cap ≤ maxLen ∧ ∀ j (h : j < l.length), w.cell? ⟨b, off + j, none⟩ = some (.int .u8 (l[j].toNat : Int))

theorem BytesAt.keeps {S : List Nat} {w w' : World} {v : Value} {l : List UInt8} (h : BytesAt w v l) (ht : Touch S w w') (hn : ∀ b off n c, v = .slice (some ⟨b, off, none⟩) n c → b ∉ S) : BytesAt w' v l := by
  rcases h with h | ⟨b, off, cap, rfl, hl, hm, hc⟩
  · exact .inl h
  · exact .inr ⟨b, off, cap, rfl, hl, hm, fun j hj => ht.keeps (hc j hj) (hn b off _ _ rfl)⟩
theorem BytesAt.below {w w' : World} {v : Value} {l : List UInt8} (h : BytesAt w v l) (ht : Below w.heap.size w w') : BytesAt w' v l := h.keeps (Touch.ofBelow ht) (by simp)

theorem BytesAt.drewN {w : World} {v : Value} {l : List UInt8} (h : BytesAt w v l) (n : Nat) : BytesAt (w.drewN n) v l := h.below (below_drewN (Below.refl _ _) n)

theorem strOfNums_bytes (l : List UInt8) : strOfNums (l.map fun c => (c.toNat : Int)) = ⟨l.toArray⟩ := by
  unfold strOfNums
  rw [List.map_map]
  have e : ((fun n : Int => UInt8.ofNat n.toNat) ∘ fun c : UInt8 => (c.toNat : Int)) = id := by funext c; simp
  rw [e, List.map_id]

/-- string(b), of bytes that can be read -/
theorem conv_bytes {w : World} {v : Value} {l : List UInt8} (h : BytesAt w v l) :
    (convert 33 9 v).run Tryz.prog w = .ok (.string ⟨l.toArray⟩) w := by
  rcases h with ⟨rfl, c, rfl⟩ | ⟨b, off, cap, rfl, hl, hm, hc⟩
  · exact run_convert_bytes_nil w _ _ Tryz.underlying33 Tryz.underlying5 0 c _ Tryz.underlying9
  · rw [run_convert_bytes_arg w _ _ Tryz.underlying33 Tryz.underlying5 b off l.length cap (l.map fun c => (c.toNat : Int)) (by simp) (fun i hi => by
      rw [hc i hi]; simp [List.getD, hi]) _ Tryz.underlying9, strOfNums_bytes]

/-- []byte(s): the new row reads as the string's bytes -/
theorem bytesWorld_at {w : World} {e : TypeId} {s : ByteArray} (hm : s.size ≤ maxLen) : BytesAt (Lib.bytesWorld w e s) (.slice (some ⟨w.heap.size, 0, none⟩) s.size (grownCap w s.size 0 e)) s.data.toList := by
  have hl : s.data.toList.length = s.size := by rw [Array.length_toList]; rfl
  refine .inr ⟨_, _, _, by rw [hl], by rw [hl]; exact grownCap_ge _ _ _ _, grownCap_le_maxLen _ _ _ _ hm, fun j hj => ?_⟩
  rw [Nat.zero_add, Lib.bytesWorld_cell w e s j (by omega)]
  rw [List.getD, List.getElem?_eq_getElem hj]; rfl
theorem bytesWorld_below (w : World) (e : TypeId) (s : ByteArray) : Below w.heap.size w (Lib.bytesWorld w e s) :=
  ⟨rfl, rfl, rfl, by rw [Lib.bytesWorld_size]; omega, fun k hk => Lib.bytesWorld_at_old w e s k hk⟩

theorem info_u8 : (Tryz.prog.info? 5).map (fun i => (i.zero, i.size, i.bytes)) = some (some (.int .u8 0), 1, 1) := by kernel_rfl

/-- A slice of bytes of the call's own -/
def byteVals (l : List UInt8) : List Value := l.map fun c => Value.int .u8 (c.toNat : Int)
def OwnB (w : World) (base : Nat) (v : Value) (l : List UInt8) : Prop := w.ownsRow base 5 1 v l.length (byteVals l)
theorem OwnB.nil (w : World) (base : Nat) : OwnB w base (.slice none 0 0) [] := World.ownsRow_nil _ _ _ _
theorem OwnB.alloc {w : World} {base : Nat} {v : Value} {l : List UInt8} (h : OwnB w base v l) (o : Obj) : OwnB (w.alloc o) base v l := World.ownsRow.alloc h o
theorem OwnB.lt {w : World} {base : Nat} {v : Value} {l : List UInt8} (h : OwnB w base v l) : ∀ k, v.ownBlock = some k → base ≤ k ∧ k < w.heap.size := World.ownsRow.lt h
theorem OwnB.below {w w' : World} {base : Nat} {v : Value} {l : List UInt8} (h : OwnB w base v l) (hb : Below w.heap.size w w') : OwnB w' base v l :=
  World.ownsRow.kept (row := none) h ⟨hb.os, hb.tape, hb.output, hb.size, fun k hk _ => hb.block k hk⟩ (by cases hv : v.ownBlock <;> simp)
theorem OwnB.at {w : World} {base : Nat} {v : Value} {l : List UInt8} (h : OwnB w base v l) : BytesAt w v l := by
  obtain ⟨h1, h2⟩ := h
  rcases h2 with ⟨rfl, h0⟩ | ⟨g, cap, cur, rfl, hg, hb, hn, hm, hc, ht⟩
  · exact .inl ⟨List.eq_nil_of_length_eq_zero h0, 0, rfl⟩
  · refine .inr ⟨g, 0, cap, rfl, hn, hm, fun j hj => ?_⟩
    rw [cell_of_row w g _ cur _ _ hb, Nat.zero_add]
    have e : (cur.toList.take (l.length * 1))[j]? = some (.int .u8 (l[j].toNat : Int)) := by rw [ht]; simp [byteVals, hj]
    rw [List.getElem?_take] at e
    split at e
    · simpa using e
    · cases e

theorem OwnB.grown {w w0 w1 : World} {base : Nat} {v : Value} {l : List UInt8} (h : OwnB w base v l) (hb : Below base w0 w) (o : Obj) (hs : base ≤ w.heap.size) (hg : (w.alloc o).grownBy w1 v.ownBlock) : Below base w0 w1 :=
  (hb.alloc hs o).grown hg (by simp; omega) (fun k hk => (h.lt k hk).1)

/-- append(b, c) -/
theorem app_u8 {ops : Array Oper} {rest : List Oper} {o : Oper} {a : Act} {Q : Exit → Act → World → Prop} {w : World} (hgd : o.guard = none) (s x : Operand)
    (ho : o.op = .call { callee := .builtin .append, args := #[s, x], argTypes := #[33, 33] }) (base : Nat) (v : Value) (l : List UInt8) (c : UInt8) (hs : a.eval s = v) (hown : OwnB w base v l)
    (A : Nat) (hx : a.eval x = .slice (some ⟨A, 0, none⟩) 1 1) (hc : w.cell? ⟨A, 0, none⟩ = some (.int .u8 (c.toNat : Int))) (hl : l.length ≤ 4294967290) (hbase : base ≤ w.heap.size)
    (h : ∀ v' w', OwnB w' base v' (l ++ [c]) → w.grownBy w' v.ownBlock → wpList Tryz.prog ops Q rest (a.put o.dst v') w') : wpList Tryz.prog ops Q (o :: rest) a w := by
  obtain ⟨i0, hi, hz0, hz1, hz2⟩ := info_parts info_u8
  refine wpList_append_own w hgd s x 33 ho base 5 i0 (.int .u8 0) 1 1 Tryz.underlying33 hi hz0 hz1 hz2 rfl (by decide) v l.length (byteVals l) hs hown ⟨A, 0, none⟩ 1 1 [.int .u8 (c.toNat : Int)] hx rfl ?_ ?_ ?_ ?_ hbase ?_
  · intro j u hj
    match j, hj with
    | 0, hj => simp at hj; subst hj; simpa [Addr.add] using hc
  · intro u hu; simp at hu; subst hu; rfl
  · unfold maxLen; omega
  · omega
  · intro v' w' hown' hg _
    refine h v' w' ?_ hg
    unfold OwnB
    simpa [byteVals] using hown'

theorem cell_new1 (w : World) (v : Value) (t : TypeId) : (w.alloc (.cells #[v] t)).cell? ⟨w.heap.size, 0, none⟩ = some v := by
  rw [World.cell?_alloc_at _ _ _ _ rfl]; rfl
/-- A whole block -/
def Blk (w : World) (b : Nat) (cs : Array Value) (t : TypeId) : Prop := w.heap[b]? = some (.cells cs t (0, 0))
theorem Blk.new (w : World) (cs : Array Value) (t : TypeId) : Blk (w.alloc (.cells cs t)) w.heap.size cs t := heap_alloc_new w _
theorem Blk.lt {w : World} {b : Nat} {cs : Array Value} {t : TypeId} (h : Blk w b cs t) : b < w.heap.size := (Array.getElem?_eq_some_iff.1 h).1
theorem Blk.touch {S : List Nat} {w w' : World} {b : Nat} {cs : Array Value} {t : TypeId} (h : Blk w b cs t) (ht : Touch S w w') (hb : b ∉ S) : Blk w' b cs t := (ht.block b h.lt hb).trans h
theorem Blk.below {w w' : World} {b : Nat} {cs : Array Value} {t : TypeId} (h : Blk w b cs t) (ht : Below w.heap.size w w') : Blk w' b cs t := h.touch (Touch.ofBelow ht) (by simp)
theorem Blk.cell {w : World} {b : Nat} {cs : Array Value} {t : TypeId} (h : Blk w b cs t) (j : Nat) : w.cell? ⟨b, j, none⟩ = cs[j]? := by
  have := cell_of_row w b j cs t (0, 0) h
  simpa using this
theorem Blk.frozen {w : World} {b : Nat} {cs : Array Value} {t : TypeId} (h : Blk w b cs t) (j : Nat) : w.frozen? ⟨b, j, none⟩ = false := by
  unfold Blk at h
  simp [World.frozen?, h]
theorem ret_bool {a b : Bool} (h : a = b) : Ending.returned (.bool a) = .returned (.bool b) := by rw [h]
theorem ret_int {k : IntKind} {a b : Int} (h : a = b) : Ending.returned (.int k a) = .returned (.int k b) := by rw [h]
theorem size_toList (s : ByteArray) : s.data.toList.length = s.size := by rw [Array.length_toList]; rfl
theorem size_mk (l : List UInt8) : (⟨l.toArray⟩ : ByteArray).size = l.length := by simp [ByteArray.size]
theorem bs_eta (s : ByteArray) : (⟨s.data.toList.toArray⟩ : ByteArray) = s := by simp
theorem all_snoc {p : UInt8 → Bool} {s : ByteArray} {k : Nat} (h : k < s.size) (ha : (s.data.toList.take k).all p = true) (hp : p s[k] = true) : (s.data.toList.take (k + 1)).all p = true := by
  rw [List.take_succ_eq_append_getElem (by rw [size_toList]; exact h), List.all_append, ha]
  simp only [List.all_cons, List.all_nil, Bool.and_true, Bool.true_and]
  exact hp
theorem all_not {p : UInt8 → Bool} {s : ByteArray} {k : Nat} (h : k < s.size) (hp : p s[k] = false) : s.data.toList.all p = false := by
  rw [List.all_eq_false]
  exact ⟨s[k], by show s.data[k] ∈ _; simp, by simp [hp]⟩
theorem all_whole {p : UInt8 → Bool} {s : ByteArray} {k : Nat} (h : ¬ k < s.size) (ha : (s.data.toList.take k).all p = true) : s.data.toList.all p = true := by
  rwa [List.take_of_length_le (by rw [size_toList]; omega)] at ha
theorem extract_from (t : List UInt8) (a : Nat) : (⟨t.toArray⟩ : ByteArray).extract a t.length = ⟨(t.drop a).toArray⟩ := by
  apply ByteArray.ext
  simp only [ByteArray.data_extract]
  apply Array.toList_inj.1
  simp [List.take_of_length_le]
theorem extract_to (t : List UInt8) (a : Nat) : (⟨t.toArray⟩ : ByteArray).extract 0 a = ⟨(t.take a).toArray⟩ := by
  apply ByteArray.ext
  simp only [ByteArray.data_extract]
  apply Array.toList_inj.1
  simp
/-- s[a:] -/
theorem ext_from (s : ByteArray) (a : Nat) : ∃ d : ByteArray, s.extract a s.size = d ∧ Hid (s.data.toList.drop a = d.data.toList) := by
  refine ⟨_, rfl, Lib.hid ?_⟩
  rw [ByteArray.data_extract, Array.toList_extract]
  rw [List.extract_eq_take_drop, List.take_of_length_le (by rw [List.length_drop, size_toList]; exact Nat.le_refl _)]
/-- s[:a] -/
theorem ext_to (s : ByteArray) (a : Nat) : ∃ d : ByteArray, s.extract 0 a = d ∧ Hid (s.data.toList.take a = d.data.toList) := by
  refine ⟨_, rfl, Lib.hid ?_⟩
  rw [ByteArray.data_extract, Array.toList_extract]
  simp
theorem drop_cons {s : ByteArray} {k : Nat} (h : k < s.size) : s.data.toList.drop k = s[k] :: s.data.toList.drop (k + 1) :=
  List.drop_eq_getElem_cons (by rw [size_toList]; exact h)
theorem drop_nil {s : ByteArray} {k : Nat} (h : ¬ k < s.size) : s.data.toList.drop k = [] := List.drop_eq_nil_of_le (by rw [size_toList]; omega)
theorem empty_yes {s : ByteArray} (h : s.size = 0) : s.toList.isEmpty = true := by
  rw [ByteArray.toList_eq, List.isEmpty_iff]; exact List.eq_nil_of_length_eq_zero (by rw [size_toList]; exact h)
theorem empty_no {s : ByteArray} (h : 0 < s.size) : s.toList.isEmpty = false := by
  rw [ByteArray.toList_eq, List.isEmpty_eq_false_iff]; intro e; have := size_toList s; rw [e] at this; simp at this; omega
theorem u8_toInt {c n : UInt8} {z : Int} (hz : (n.toNat : Int) = z) : (c.toNat : Int) = z ↔ c = n := by
  subst hz
  exact ⟨fun h => UInt8.toNat_inj.1 (by omega), fun h => by rw [h]⟩
theorem beq_yes {c n : UInt8} {z : Int} (h : c = n) (hz : (n.toNat : Int) = z := by rfl) : ((c.toNat : Int) == z) = true := beq_iff_eq.2 ((u8_toInt hz).2 h)
theorem beq_no {c n : UInt8} {z : Int} (h : ¬ c = n) (hz : (n.toNat : Int) = z := by rfl) : ((c.toNat : Int) == z) = false := beq_eq_false_iff_ne.2 fun e => h ((u8_toInt hz).1 e)
theorem bne_yes {c n : UInt8} {z : Int} (h : ¬ c = n) (hz : (n.toNat : Int) = z := by rfl) : ((c.toNat : Int) != z) = true := bne_iff_ne.2 fun e => h ((u8_toInt hz).1 e)
theorem bne_no {c n : UInt8} {z : Int} (h : c = n) (hz : (n.toNat : Int) = z := by rfl) : ((c.toNat : Int) != z) = false := by rw [bne, beq_yes h hz]; rfl
theorem beqY {c n : UInt8} (z : Int) (h : c = n) (hz : (n.toNat : Int) = z := by rfl) : ((c.toNat : Int) == z) = true := beq_yes h hz
theorem beqN {c n : UInt8} (z : Int) (h : ¬ c = n) (hz : (n.toNat : Int) = z := by rfl) : ((c.toNat : Int) == z) = false := beq_no h hz
theorem bneY {c n : UInt8} (z : Int) (h : ¬ c = n) (hz : (n.toNat : Int) = z := by rfl) : ((c.toNat : Int) != z) = true := bne_yes h hz
theorem bneN {c n : UInt8} (z : Int) (h : c = n) (hz : (n.toNat : Int) = z := by rfl) : ((c.toNat : Int) != z) = false := bne_no h hz
theorem u8_back (c : UInt8) : ((c.toNat : Int).toNat).toUInt8 = c := by simp
end Go.Proofs.YtilcfpaimhiofaaGreatDoor
