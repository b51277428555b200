/- Slices of tokens: what is owned, what is read, append; and the lengths of what lex's functions cut off. -/
import Derived.Test.YtilcfpaimhiofaaGreatDoorLex4
import Derived.Test.YtilcfpaimhiofaaGreatDoorLex5
namespace Go.Proofs.YtilcfpaimhiofaaGreatDoor
open Go.RowKit

theorem info_tok : (Tryz.prog.info? 44).map (fun i => (i.zero, i.size, i.bytes)) = some (some (.agg #[.int .i64 0, .string ⟨#[]⟩]), 2, 24) := by kernel_rfl

def tokCells (ts : List Tok) : List Value := ts.flatMap fun t => [Value.int .i64 t.kind, Value.string ⟨t.text.toArray⟩]
theorem tokCells_length (ts : List Tok) : (tokCells ts).length = ts.length * 2 := by
  induction ts with
  | nil => rfl
  | cons t r ih => simp [tokCells] at ih ⊢; omega
theorem tokCells_cons (t : Tok) (ts : List Tok) : tokCells (t :: ts) = Value.int .i64 t.kind :: Value.string ⟨t.text.toArray⟩ :: tokCells ts := by simp [tokCells]
theorem tokCells_at (ts : List Tok) (j : Nat) (h : j < ts.length) : (tokCells ts)[2 * j]? = some (.int .i64 ts[j].kind) ∧ (tokCells ts)[2 * j + 1]? = some (.string ⟨ts[j].text.toArray⟩) := by
  induction ts generalizing j with
  | nil => simp at h
  | cons t r ih =>
    rw [tokCells_cons]
    cases j with
    | zero => simp
    | succ j =>
      have := ih j (by simpa using h)
      simpa [show 2 * (j + 1) = 2 * j + 1 + 1 by omega] using this

/-- A slice of tokens that can be read -/
def TokAt (w : World) (v : Value) (ts : List Tok) : Prop :=
  (ts = [] ∧ ∃ c, v = .slice none 0 c) ∨ ∃ b off cap, v = .slice (some ⟨b, off, none⟩) ts.length cap ∧ ts.length ≤ cap ∧ cap ≤ maxLen ∧
    ∀ j (h : j < ts.length), w.cell? ⟨b, off + 2 * j, none⟩ = some (.int .i64 ts[j].kind) ∧ w.cell? ⟨b, off + 2 * j + 1, none⟩ = some (.string ⟨ts[j].text.toArray⟩)
theorem TokAt.keeps {S : List Nat} {w w' : World} {v : Value} {ts : List Tok} (h : TokAt w v ts) (ht : Touch S w w') (hn : ∀ b off n c, v = .slice (some ⟨b, off, none⟩) n c → b ∉ S) : TokAt w' v ts := by
  rcases h with h | ⟨b, off, cap, rfl, hl, hm, hc⟩
  · exact .inl h
  · exact .inr ⟨b, off, cap, rfl, hl, hm, fun j hj => ⟨ht.keeps (hc j hj).1 (hn b off _ _ rfl), ht.keeps (hc j hj).2 (hn b off _ _ rfl)⟩⟩
theorem TokAt.below {w w' : World} {v : Value} {ts : List Tok} (h : TokAt w v ts) (ht : Below w.heap.size w w') : TokAt w' v ts := h.keeps (Touch.ofBelow ht) (by simp)

/-- A slice of tokens of the call's own -/
def OwnT (w : World) (base : Nat) (v : Value) (ts : List Tok) : Prop := w.ownsRow base 44 2 v ts.length (tokCells ts)
theorem OwnT.nil (w : World) (base : Nat) : OwnT w base (.slice none 0 0) [] := World.ownsRow_nil _ _ _ _
theorem OwnT.alloc {w : World} {base : Nat} {v : Value} {l : List Tok} (h : OwnT w base v l) (o : Obj) : OwnT (w.alloc o) base v l := World.ownsRow.alloc h o
theorem OwnT.lt {w : World} {base : Nat} {v : Value} {l : List Tok} (h : OwnT w base v l) : ∀ k, v.ownBlock = some k → base ≤ k ∧ k < w.heap.size := World.ownsRow.lt h
theorem OwnT.below {w w' : World} {base : Nat} {v : Value} {l : List Tok} (h : OwnT w base v l) (hb : Below w.heap.size w w') : OwnT w' base v l :=
  World.ownsRow.kept (row := none) h ⟨hb.os, hb.tape, hb.output, hb.size, fun k hk _ => hb.block k hk⟩ (by cases hv : v.ownBlock <;> simp)
theorem OwnT.shape {w : World} {base : Nat} {v : Value} {l : List Tok} (h : OwnT w base v l) : ∃ a c, v = .slice a l.length c := by
  obtain ⟨_, h2⟩ := h
  rcases h2 with ⟨rfl, h0⟩ | ⟨g, cap, cur, rfl, _⟩
  · exact ⟨none, 0, by rw [h0]⟩
  · exact ⟨_, _, rfl⟩
theorem OwnT.at {w : World} {base : Nat} {v : Value} {l : List Tok} (h : OwnT w base v l) : TokAt w v l := by
  obtain ⟨h1, h2⟩ := h
  rcases h2 with ⟨rfl, h0⟩ | ⟨g, cap, cur, rfl, hg, hb, hn, hm, hc, ht⟩
  · exact .inl ⟨List.eq_nil_of_length_eq_zero h0, 0, rfl⟩
  · refine .inr ⟨g, 0, cap, rfl, hn, hm, fun j hj => ?_⟩
    have hat := tokCells_at l j hj
    rw [← ht, List.getElem?_take, if_pos (by omega), List.getElem?_take, if_pos (by omega)] at hat
    rw [cell_of_row w g _ cur _ _ hb, cell_of_row w g _ cur _ _ hb, Nat.zero_add]
    simpa using hat
theorem OwnT.grown {w w0 w1 : World} {base : Nat} {v : Value} {l : List Tok} (h : OwnT w base v l) (hb : Below base w0 w) (o : Obj) (hs : base ≤ w.heap.size) (hg : (w.alloc o).grownBy w1 v.ownBlock) : Below base w0 w1 :=
  (hb.alloc hs o).grown hg (by simp; omega) (fun k hk => (h.lt k hk).1)

/-- append(l, t) -/
theorem app_tok {ops : Array Oper} {rest : List Oper} {o : Oper} {a : Act} {Q : Exit → Act → World → Prop} {w : World} (hgd : o.guard = none) (s x : Operand)
    (ho : o.op = .call { callee := .builtin .append, args := #[s, x], argTypes := #[26, 26] }) (base : Nat) (v : Value) (l : List Tok) (c : Tok) (hs : a.eval s = v) (hown : OwnT w base v l)
    (A : Nat) (hx : a.eval x = .slice (some ⟨A, 0, none⟩) 1 1) (hc : Blk w A #[.int .i64 c.kind, .string ⟨c.text.toArray⟩] 44) (hl : l.length ≤ 4294967290) (hbase : base ≤ w.heap.size)
    (h : ∀ v' w', OwnT w' base v' (l ++ [c]) → w.grownBy w' v.ownBlock → wpList Tryz.prog ops Q rest (a.put o.dst v') w') : wpList Tryz.prog ops Q (o :: rest) a w := by
  obtain ⟨i0, hi, hz0, hz1, hz2⟩ := info_parts info_tok
  refine wpList_append_own w hgd s x 26 ho base 44 i0 (.agg #[.int .i64 0, .string ⟨#[]⟩]) 2 24 Tryz.underlying26 hi hz0 hz1 hz2 rfl (by decide) v l.length (tokCells l) hs hown ⟨A, 0, none⟩ 1 1 (tokCells [c]) hx rfl ?_ ?_ ?_ ?_ hbase ?_
  · intro j u hj
    rw [show ((⟨A, 0, none⟩ : Addr).add j) = ⟨A, j, none⟩ by unfold Addr.add; split <;> simp_all, hc.cell j]
    rw [tokCells_cons] at hj
    match j, hj with
    | 0, hj => simpa using hj
    | 1, hj => simpa using hj
    | j + 2, hj => simp [tokCells] at hj
  · intro u hu; simp [tokCells] at hu; rcases hu with rfl | rfl <;> rfl
  · unfold maxLen; omega
  · omega
  · intro v' w' hown' hg _
    refine h v' w' ?_ hg
    unfold OwnT
    have e : tokCells (l ++ [c]) = tokCells l ++ tokCells [c] := by simp [tokCells]
    rw [e]
    simpa using hown'

theorem quotedL_le : ∀ (l acc : List UInt8) {a b : List UInt8}, quotedL l acc = some (a, b) → a.length ≤ acc.length + l.length ∧ b.length ≤ l.length
  | [], acc, a, b, h => by simp [quotedL] at h
  | c :: r, acc, a, b, h => by
    unfold quotedL at h
    split at h
    · simp at h; obtain ⟨rfl, rfl⟩ := h; simp
    · split at h
      · match r with
        | [] => simp at h
        | d :: r' =>
          simp only at h
          split at h
          · have := quotedL_le r' _ h; simp at this ⊢; omega
          · cases h
      · split at h
        · cases h
        · have := quotedL_le r _ h; simp at this ⊢; omega
theorem countedF_le {l a b : List UInt8} (h : countedF l = some (a, b)) : a.length ≤ l.length ∧ b.length ≤ l.length := by
  have hc := cut_le l [13, 10]
  unfold countedF at h
  simp only at h
  split at h
  · cases h
  · simp at h; obtain ⟨rfl, rfl⟩ := h; simp; omega
theorem oneF_le (l : List UInt8) : (oneF l).1.text.length ≤ l.length ∧ (oneF l).2.1.length ≤ l.length := by
  cases l with
  | nil => simp [oneF]
  | cons c r =>
    unfold oneF
    simp only
    split
    · simp
    · split
      · simp
      · split
        · split
          · simp
          · rename_i a b h; have := quotedL_le r [] h; simp at this ⊢; omega
        · split
          · split
            · simp
            · rename_i a b h; have := countedF_le h; simp at this ⊢; omega
          · have h1 := (List.takeWhile_sublist isPlain (l := c :: r)).length_le
            have h2 := (List.dropWhile_sublist isPlain (l := c :: r)).length_le
            exact ⟨h1, h2⟩
theorem apartF_le (l : List UInt8) (k : Int) : (apartF l k).1.length ≤ l.length := by
  have := trimPrefix_le l [32]
  unfold apartF
  simp only
  split
  · simp
  · rename_i c r h; rw [h] at this; exact this
end Go.Proofs.YtilcfpaimhiofaaGreatDoor
