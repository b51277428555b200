/- Slices of whatever elements, of the call's own and read; append of one element. -/
import Derived.Test.YtilcfpaimhiofaaGreatDoorWrap
namespace Go.Proofs.YtilcfpaimhiofaaGreatDoor
open Go.RowKit

section
variable {α : Type} (f : α → List Value) (size : Nat)

def OwnG (w : World) (base : Nat) (e : TypeId) (v : Value) (l : List α) : Prop := w.ownsRow base e size v l.length (l.flatMap f)
variable {f size}
variable {w w' : World} {base : Nat} {e : TypeId} {v : Value} {l : List α}
theorem OwnG.nil : OwnG f size w base e (.slice none 0 0) ([] : List α) := World.ownsRow_nil _ _ _ _
theorem OwnG.alloc (h : OwnG f size w base e v l) (o : Obj) : OwnG f size (w.alloc o) base e v l := World.ownsRow.alloc h o
theorem OwnG.lt (h : OwnG f size w base e v l) : ∀ k, v.ownBlock = some k → base ≤ k ∧ k < w.heap.size := World.ownsRow.lt h
theorem OwnG.below (h : OwnG f size w base e v l) (hb : Below w.heap.size w w') : OwnG f size w' base e v l :=
  World.ownsRow.kept (row := none) h ⟨hb.os, hb.tape, hb.output, hb.size, fun k hk _ => hb.block k hk⟩ (by cases hv : v.ownBlock <;> simp)
theorem OwnG.touch {S : List Nat} (h : OwnG f size w base e v l) (ht : Touch S w w') (hS : ∀ k, v.ownBlock = some k → k ∉ S) : OwnG f size w' base e v l := by
  refine ⟨h.1, ?_⟩
  rcases h.2 with h2 | ⟨g, cap, cur, rfl, hg, hh, r⟩
  · exact .inl h2
  · exact .inr ⟨g, cap, cur, rfl, hg, (ht.block g (Array.getElem?_eq_some_iff.1 hh).1 (hS g rfl)).trans hh, r⟩
theorem OwnG.mono {base' : Nat} (h : OwnG f size w base e v l) (hb : base' ≤ base) : OwnG f size w base' e v l := by
  refine ⟨h.1, ?_⟩
  rcases h.2 with h2 | ⟨g, cap, cur, rfl, hg, r⟩
  · exact .inl h2
  · exact .inr ⟨g, cap, cur, rfl, Nat.le_trans hb hg, r⟩
theorem OwnG.shape (h : OwnG f size w base e v l) : ∃ a c, v = .slice a l.length c := by
  obtain ⟨_, h2⟩ := h
  rcases h2 with ⟨rfl, h0⟩ | ⟨g, cap, cur, rfl, _⟩
  · exact ⟨none, 0, by rw [h0]⟩
  · exact ⟨_, _, rfl⟩
theorem OwnG.grown {w0 w1 : World} (h : OwnG f size w base e v l) (hb : Below base w0 w) (o : Obj) (hs : base ≤ w.heap.size) (hg : (w.alloc o).grownBy w1 v.ownBlock) : Below base w0 w1 :=
  (hb.alloc hs o).grown hg (by simp; omega) (fun k hk => (h.lt k hk).1)
theorem flatMap_at (hf : ∀ a, (f a).length = size) : ∀ (l : List α) (j i : Nat) (h : j < l.length), i < size → (l.flatMap f)[size * j + i]? = (f l[j])[i]?
  | [], j, i, h, _ => by simp at h
  | a :: r, 0, i, _, hi => by
    rw [List.flatMap_cons, List.getElem?_append_left (by rw [hf]; omega)]; simp
  | a :: r, j + 1, i, h, hi => by
    rw [List.flatMap_cons, List.getElem?_append_right (by rw [hf, Nat.mul_add]; omega), hf]
    have := flatMap_at hf r j i (by simpa using h) hi
    rw [show size * (j + 1) + i - size = size * j + i by rw [Nat.mul_add]; omega, this]
    simp
/-- one that can be read -/
def RowAt (f : α → List Value) (size : Nat) (w : World) (v : Value) (l : List α) : Prop :=
  (l = [] ∧ ∃ c, v = .slice none 0 c) ∨ ∃ b off cap, v = .slice (some ⟨b, off, none⟩) l.length cap ∧ l.length ≤ cap ∧ cap ≤ maxLen ∧
    ∀ j (h : j < l.length) i u, (f l[j])[i]? = some u → w.cell? ⟨b, off + size * j + i, none⟩ = some u
theorem RowAt.keeps {S : List Nat} (h : RowAt f size w v l) (ht : Touch S w w') (hn : ∀ b off n c, v = .slice (some ⟨b, off, none⟩) n c → b ∉ S) : RowAt f size w' v l := by
  rcases h with h | ⟨b, off, cap, rfl, hl, hm, hc⟩
  · exact .inl h
  · exact .inr ⟨b, off, cap, rfl, hl, hm, fun j hj i u hu => ht.keeps (hc j hj i u hu) (hn b off _ _ rfl)⟩
theorem RowAt.below (h : RowAt f size w v l) (ht : Below w.heap.size w w') : RowAt f size w' v l := h.keeps (Touch.ofBelow ht) (by simp)
theorem RowAt.shape (h : RowAt f size w v l) : ∃ a c, v = .slice a l.length c := by
  rcases h with ⟨rfl, c, rfl⟩ | ⟨b, off, cap, rfl, _⟩
  · exact ⟨_, _, rfl⟩
  · exact ⟨_, _, rfl⟩
theorem OwnG.at (hf : ∀ a, (f a).length = size) (h : OwnG f size w base e v l) : RowAt f size w v l := by
  obtain ⟨h1, h2⟩ := h
  rcases h2 with ⟨rfl, h0⟩ | ⟨g, cap, cur, rfl, hg, hb, hn, hm, hc, ht⟩
  · exact .inl ⟨List.eq_nil_of_length_eq_zero h0, 0, rfl⟩
  · refine .inr ⟨g, 0, cap, rfl, hn, hm, fun j hj i u hu => ?_⟩
    have hi : i < size := by rw [← hf l[j]]; exact (List.getElem?_eq_some_iff.1 hu).1
    have hat := flatMap_at hf l j i hj hi
    have hle : size * j + i < l.length * size := by
      have : size * (j + 1) ≤ size * l.length := Nat.mul_le_mul_left _ hj
      rw [Nat.mul_add] at this; rw [Nat.mul_comm l.length]; omega
    rw [← ht, List.getElem?_take, if_pos hle, hu] at hat
    rw [cell_of_row w g _ cur _ _ hb, Nat.zero_add]
    simpa using hat

/-- append(l, x) -/
theorem app_g (hf : ∀ a, (f a).length = size) (h1c : ∀ a, ∀ u ∈ f a, u.oneCell' = true) (bytes : Nat) (z : Value) (hi5 : (Tryz.prog.info? e).map (fun i => (i.zero, i.size, i.bytes)) = some (some z, size, bytes)) (hzs : z.cells.size = size) (hsz : 0 < size) (hby : bytes ≤ 256)
    {ops : Array Oper} {rest : List Oper} {o : Oper} {a : Act} {Q : Exit → Act → World → Prop} {t : TypeId} (ht : Tryz.prog.underlying t = some (.slice e)) (hgd : o.guard = none) (s x : Operand)
    (ho : o.op = .call { callee := .builtin .append, args := #[s, x], argTypes := #[t, t] }) (c : α) (hs : a.eval s = v) (hown : OwnG f size w base e v l)
    (A : Nat) (hx : a.eval x = .slice (some ⟨A, 0, none⟩) 1 1) (hc : Blk w A (f c).toArray e) (hl : l.length ≤ 4294967290) (hbase : base ≤ w.heap.size)
    (h : ∀ v' w', OwnG f size w' base e v' (l ++ [c]) → w.grownBy w' v.ownBlock → wpList Tryz.prog ops Q rest (a.put o.dst v') w') : wpList Tryz.prog ops Q (o :: rest) a w := by
  obtain ⟨i0, hi, hz0, hz1, hz2⟩ := info_parts hi5
  refine wpList_append_own w hgd s x t ho base e i0 z size bytes ht hi hz0 hz1 hz2 hzs hsz v l.length (l.flatMap f) hs hown ⟨A, 0, none⟩ 1 1 (f c) hx (by rw [hf]; omega) ?_ (h1c c) ?_ ?_ hbase ?_
  · intro j u hj
    rw [show ((⟨A, 0, none⟩ : Addr).add j) = ⟨A, j, none⟩ by unfold Addr.add; split <;> simp_all, hc.cell j]
    simpa using hj
  · unfold maxLen; omega
  · have : (l.length + 1) * bytes ≤ 4294967291 * 256 := Nat.mul_le_mul (by omega) hby
    omega
  · intro v' w' hown' hg _
    refine h v' w' ?_ hg
    unfold OwnG
    simpa using hown'
end
end Go.Proofs.YtilcfpaimhiofaaGreatDoor
