/- name.plain and name.Norm: what they compute. -/
import Derived.Test.YtilcfpaimhiofaaGreatDoorWrap
namespace Go.Proofs.YtilcfpaimhiofaaGreatDoor
open Go.RowKit

def nameB (c : UInt8) : Bool := decide (97 ≤ c.toNat ∧ c.toNat ≤ 122) || decide (65 ≤ c.toNat ∧ c.toNat ≤ 90) || decide (48 ≤ c.toNat ∧ c.toNat ≤ 57) || c == 46 || c == 95 || c == 45

set_option maxRecDepth 100000 in
theorem nplain_any (c : UInt8) (w : World) :
    Calls Tryz.prog 68 #[.int .u8 (c.toNat : Int)] w fun e w' => e = .returned (.bool (nameB c)) ∧ w = w' := by
  have hlt := UInt8.toNat_lt c
  have key : ∀ b : Bool, (b = nameB c) → (∀ w, Calls Tryz.prog 68 #[.int .u8 (c.toNat : Int)] w fun e w' => e = .returned (.bool b) ∧ w = w') → Calls Tryz.prog 68 #[.int .u8 (c.toNat : Int)] w fun e w' => e = .returned (.bool (nameB c)) ∧ w = w' := fun b h k => by rw [← h]; exact k w
  by_cases a : 97 ≤ (c.toNat : Int) ∧ (c.toNat : Int) ≤ 122
  · refine key true (by simp [nameB]; omega) fun w => ?_
    obtain ⟨a1, a2⟩ := a
    go_enter Tryz.func68, Tryz.ntmps68
    go_wp2
    all_goals go_ret
    all_goals exact ⟨rfl, rfl⟩
  · by_cases b : 65 ≤ (c.toNat : Int) ∧ (c.toNat : Int) ≤ 90
    · refine key true (by simp [nameB]; omega) fun w => ?_
      obtain ⟨b1, b2⟩ := b
      go_enter Tryz.func68, Tryz.ntmps68
      go_wp2
      all_goals go_ret
      all_goals exact ⟨rfl, rfl⟩
    · by_cases d : 48 ≤ (c.toNat : Int) ∧ (c.toNat : Int) ≤ 57
      · refine key true (by simp [nameB]; omega) fun w => ?_
        obtain ⟨d1, d2⟩ := d
        go_enter Tryz.func68, Tryz.ntmps68
        go_wp2
        all_goals go_ret
        all_goals exact ⟨rfl, rfl⟩
      · by_cases e : c = 46
        · subst e
          refine key true (by decide) fun w => ?_
          clear key a b d hlt
          go_enter Tryz.func68, Tryz.ntmps68
          go_wp2
          all_goals go_ret
          all_goals exact ⟨rfl, rfl⟩
        · by_cases f : c = 95
          · subst f
            refine key true (by decide) fun w => ?_
            clear key a b d hlt e
            go_enter Tryz.func68, Tryz.ntmps68
            go_wp2
            all_goals go_ret
            all_goals exact ⟨rfl, rfl⟩
          · by_cases g : c = 45
            · subst g
              refine key true (by decide) fun w => ?_
              clear key a b d hlt e f
              go_enter Tryz.func68, Tryz.ntmps68
              go_wp2
              all_goals go_ret
              all_goals exact ⟨rfl, rfl⟩
            · refine key false (by simp [nameB, e, f, g]; omega) fun w => ?_
              have t46 := beqN 46 e
              have t95 := beqN 95 f
              have t45 := beqN 45 g
              clear key e f g
              go_enter Tryz.func68, Tryz.ntmps68
              go_wp2
              all_goals go_ret
              all_goals first | exact ⟨rfl, rfl⟩ | exact ⟨ret_bool (by simp; omega), rfl⟩

/-- the parts of a text -/
def splitC (c : UInt8) (s : ByteArray) : List ByteArray := Lib.splitB ⟨#[c]⟩ 0 (Lib.countB s ⟨#[c]⟩) s
theorem split_any (s : ByteArray) (c : UInt8) (w : World) (hG : Glob w) (hs : s.size < 4294967281) :
    Calls Tryz.prog 67 #[.string s, .string ⟨#[c]⟩] w fun e w' => e = .returned (.slice (some ⟨w.heap.size, 0, none⟩) (splitC c s).length (splitC c s).length) ∧ w' = w.alloc (.cells ((splitC c s).map Value.string).toArray 9) := by
  obtain ⟨m, hm⟩ := hG.ml
  have hl : (splitC c s).length = Lib.countB s ⟨#[c]⟩ + 1 := Lib.splitB_all ⟨#[c]⟩ (Nat.le_refl 1) 0 _ s rfl
  rw [hl]
  exact Tryz.strings_Split s ⟨#[c]⟩ m w hs hm (Nat.le_refl 1)
theorem splitC_length (c : UInt8) (s : ByteArray) : (splitC c s).length ≤ s.size + 1 ∧ 1 ≤ (splitC c s).length := by
  have hl : (splitC c s).length = Lib.countB s ⟨#[c]⟩ + 1 := Lib.splitB_all ⟨#[c]⟩ (Nat.le_refl 1) 0 _ s rfl
  have := Lib.countB_le ⟨#[c]⟩ (Nat.le_refl 1) s.size s (Nat.le_refl _)
  omega
theorem splitB_size (sep : ByteArray) : ∀ (k : Nat) (s p : ByteArray), p ∈ Lib.splitB sep 0 k s → p.size ≤ s.size
  | 0, s, p, h => by simp [Lib.splitB] at h; rw [h]; exact Nat.le_refl _
  | k + 1, s, p, h => by
    unfold Lib.splitB at h
    split at h
    · simp at h; rw [h]; exact Nat.le_refl _
    · rcases List.mem_cons.1 h with h | h
      · rw [h, ByteArray.size_extract]; omega
      · have := splitB_size sep k _ p h
        rw [ByteArray.size_extract] at this; omega
theorem splitC_size {c : UInt8} {s p : ByteArray} (h : p ∈ splitC c s) : p.size ≤ s.size := splitB_size _ _ _ _ h
theorem index_one (c : UInt8) : ∀ (l : List UInt8) (i : Nat), Lib.index l [c] = i → l = l.take i ++ c :: l.drop (i + 1)
  | [], i, h => by simp [Lib.index] at h
  | b :: l, i, h => by
    unfold Lib.index at h
    split at h
    · rename_i hp
      have : i = 0 := by omega
      subst this
      have hb : c = b := by simpa [List.isPrefixOf] using hp
      simp [hb]
    · split at h
      · omega
      · have hge := Lib.index_ge l [c]
        rename_i hne
        have hne' : Lib.index l [c] ≠ -1 := by simpa using hne
        obtain ⟨j, rfl⟩ : ∃ j, i = j + 1 := ⟨i - 1, by omega⟩
        have ih := index_one c l j (by omega)
        simp only [List.take_succ_cons, List.drop_succ_cons, List.cons_append]
        rw [← ih]
theorem splitB_mem (c : UInt8) : ∀ (k : Nat) (s : ByteArray) (b : UInt8), b ∈ s.data.toList → b = c ∨ ∃ p ∈ Lib.splitB ⟨#[c]⟩ 0 k s, b ∈ p.data.toList
  | 0, s, b, h => .inr ⟨s, by simp [Lib.splitB], h⟩
  | k + 1, s, b, h => by
    unfold Lib.splitB
    split
    · exact .inr ⟨s, by simp, h⟩
    · rename_i hne
      have hge := Lib.index_ge s.data.toList [c]
      have hi : Lib.index s.data.toList [c] = ((Lib.indexB s ⟨#[c]⟩).toNat : Nat) := by
        have : Lib.indexB s ⟨#[c]⟩ = Lib.index s.data.toList [c] := rfl
        rw [this]
        have hne' : Lib.index s.data.toList [c] ≠ -1 := by simpa [this] using hne
        omega
      have hs := index_one c s.data.toList _ hi
      rw [hs] at h
      rcases List.mem_append.1 h with h | h
      · refine .inr ⟨_, List.mem_cons_self, ?_⟩
        rw [ByteArray.data_extract, Array.toList_extract, List.extract_eq_take_drop]
        simpa using h
      · rcases List.mem_cons.1 h with h | h
        · exact .inl h
        · have h' : b ∈ (s.extract ((Lib.indexB s ⟨#[c]⟩).toNat + 1) s.size).data.toList := by
            obtain ⟨d, hd, Hd⟩ := ext_from s ((Lib.indexB s ⟨#[c]⟩).toNat + 1)
            rw [hd, ← Hd.out]; exact h
          rcases splitB_mem c k _ b h' with h | ⟨p, hp, hb⟩
          · exact .inl h
          · exact .inr ⟨p, List.mem_cons_of_mem _ hp, hb⟩

def inboxL : List UInt8 := [73, 78, 66, 79, 88]
def partOk (p : ByteArray) : Bool := !p.data.toList.isEmpty && p.data.toList.all nameB
/-- Norm: the name that a text is -/
def normF (s : ByteArray) : Option ByteArray :=
  if 60 < s.size then none
  else if (splitC 47 s).all partOk then (if Lib.toUpperA s.data.toList = inboxL then some ⟨inboxL.toArray⟩ else some s) else none
def normV : Option ByteArray → Ending
  | none => .returned (.tuple #[.string ⟨#[]⟩, .bool false])
  | some s => .returned (.tuple #[.string s, .bool true])
theorem nameB_ascii {c : UInt8} (h : nameB c = true) : c.toNat < 128 := by
  simp only [nameB, Bool.or_eq_true, decide_eq_true_eq, beq_iff_eq] at h
  rcases h with ((((h | h) | h) | h) | h) | h
  · omega
  · omega
  · omega
  · rw [h]; decide
  · rw [h]; decide
  · rw [h]; decide
theorem norm_ascii {s : ByteArray} (h : (splitC 47 s).all partOk = true) : ∀ (j : Nat) (b : UInt8), s.data.toList[j]? = some b → b.toNat < 128 := by
  intro j b hb
  rcases splitB_mem 47 _ s b (List.mem_of_getElem? hb) with h' | ⟨p, hp, hb⟩
  · rw [h']; decide
  · have h1 := List.all_eq_true.1 h p hp
    simp only [partOk, Bool.and_eq_true] at h1
    exact nameB_ascii (List.all_eq_true.1 h1.2 b hb)

theorem str_cell {w : World} {ps : List ByteArray} {j : Nat} (h : j < ps.length) : (w.alloc (.cells (ps.map Value.string).toArray 9)).cell? ⟨w.heap.size, j, none⟩ = some (.string ps[j]) := by
  rw [(Blk.new w _ _).cell j]; simp [h]
theorem all_snocL {α : Type} {p : α → Bool} {l : List α} {k : Nat} (h : k < l.length) (ha : (l.take k).all p = true) (hp : p l[k] = true) : (l.take (k + 1)).all p = true := by
  rw [List.take_succ_eq_append_getElem h, List.all_append, ha]; simpa using hp
theorem all_notL {α : Type} {p : α → Bool} {l : List α} {k : Nat} (h : k < l.length) (hp : p l[k] = false) : l.all p = false := by
  rw [List.all_eq_false]; exact ⟨l[k], by simp, by simp [hp]⟩

set_option maxHeartbeats 1000000 in
set_option maxRecDepth 100000 in
theorem norm_any (s : ByteArray) (w : World) (hG : Glob w) (hl : s.size ≤ 4294967280) :
    Calls Tryz.prog 46 #[.string s] w fun e w' => e = normV (normF s) ∧ Below w.heap.size w w' := by
  have hS := split_any s 47 w hG (by omega)
  have hU : ∀ wx : World, (splitC 47 s).all partOk = true → Calls Tryz.prog 69 #[.string s] wx fun e w' => e = .returned (.string ⟨(Lib.toUpperA s.data.toList).toArray⟩) ∧ Below wx.heap.size wx w' :=
    fun wx h => Tryz.strings_ToUpper_ascii s wx (by omega) (norm_ascii h)
  have hpl := (splitC_length 47 s).1
  have hsz : ∀ j (h : j < (splitC 47 s).length), ((splitC 47 s)[j]).size ≤ s.size := fun j h => splitC_size (List.getElem_mem h)
  have fin1 : normF s = if 60 < s.size then none else if (splitC 47 s).all partOk then (if Lib.toUpperA s.data.toList = inboxL then some ⟨inboxL.toArray⟩ else some s) else none := rfl
  have Hf := Lib.hid fin1; clear fin1
  generalize splitC 47 s = ps at hS hU hpl hsz Hf
  have HU := Lib.hid hU; clear hU
  have HZ := Lib.hid hsz; clear hsz
  by_cases h60 : 60 < s.size
  · go_enter Tryz.func46, Tryz.ntmps46
    go_wp2
    go_ret2
    exact ⟨by rw [Hf.out, if_pos h60]; rfl, Below.refl _ _⟩
  · have Hf' := Lib.hid (Hf.out.trans (if_neg h60)); clear Hf
    go_enter Tryz.func46, Tryz.ntmps46
    go_wp2_with fail
    refine hS.mono ?_; rintro e w1 ⟨rfl, rfl⟩
    clear hS
    have hb1 : ∀ o, Below w.heap.size w (w.alloc o) := fun o => (Below.refl _ _).alloc (Nat.le_refl _) o
    go_wp2
    go_loop [13] (fun i => ∃ k : Nat, k ≤ ps.length ∧ i = .int .i64 k ∧ (ps.take k).all partOk = true) (fun i => ps.length - (intOf i).toNat)
    case atStart => exact ⟨0, Nat.zero_le _, rfl, rfl⟩
    case round =>
      obtain ⟨k, hk, rfl, hall⟩ := hrel
      have HA := Lib.hid hall; clear hall
      by_cases hlt : k < ps.length
      · have hc := str_cell (w := w) hlt
        have hpz := HZ.out k hlt
        obtain ⟨p, Hp⟩ : ∃ p, Hid (ps[k] = p) := ⟨_, Lib.hid rfl⟩
        rw [Hp.out] at hc hpz
        by_cases h0 : p.size = 0
        · have he := empty_yes h0
          have Hno := Lib.hid (show partOk ps[k] = false by rw [Hp.out, partOk, ← ByteArray.toList_eq, he]; rfl)
          clear h0
          go_wp2
          go_ret2
          exact ⟨by rw [Hf'.out, if_neg (by rw [all_notL hlt Hno.out]; simp)]; rfl, hb1 _⟩
        · have he := empty_no (s := p) (by omega)
          go_wp2
          go_loop [21] (fun i => ∃ j : Nat, j ≤ p.size ∧ i = .int .i64 j ∧ (p.data.toList.take j).all nameB = true) (fun i => p.size - (intOf i).toNat)
          case atStart => exact ⟨0, Nat.zero_le _, rfl, rfl⟩
          case round =>
            obtain ⟨j, hj, rfl, hallp⟩ := hrel
            have HB := Lib.hid hallp; clear hallp
            by_cases hjt : j < p.size
            · have hP := nplain_any p[j]
              cases hp : nameB p[j] with
              | true =>
                have Hq := Lib.hid hp
                simp only [hp] at hP
                clear hp
                go_wp2_with fail
                refine (hP _).mono ?_; rintro e w1 ⟨rfl, rfl⟩
                go_wp2
                go_round
                case rel => exact ⟨j + 1, by omega, by go_num, all_snoc hjt HB.out Hq.out⟩
                case measure => simp [intOf]; omega
              | false =>
                have Hq := Lib.hid hp
                simp only [hp] at hP
                clear hp
                have Hno := Lib.hid (show partOk ps[k] = false by rw [Hp.out, partOk, all_not hjt Hq.out]; simp)
                go_wp2_with fail
                refine (hP _).mono ?_; rintro e w1 ⟨rfl, rfl⟩
                go_wp2
                go_ret2
                exact ⟨by rw [Hf'.out, if_neg (by rw [all_notL hlt Hno.out]; simp)]; rfl, hb1 _⟩
            · have Hyes := Lib.hid (show partOk ps[k] = true by rw [Hp.out, partOk, ← ByteArray.toList_eq, he, ByteArray.toList_eq, all_whole hjt HB.out]; rfl)
              go_wp2
              go_round
              case rel => exact ⟨k + 1, by omega, by go_num, all_snocL hlt HA.out Hyes.out⟩
              case measure => simp [intOf]; omega
      · have hall2 : ps.all partOk = true := by have := HA.out; rwa [List.take_of_length_le (by omega)] at this
        have Hf2 := Lib.hid (Hf'.out.trans (if_pos hall2)); clear Hf'
        have hU2 := HU.out (w.alloc (.cells (ps.map Value.string).toArray 9)) hall2
        clear hall2
        obtain ⟨u, Hu⟩ : ∃ u, Hid (Lib.toUpperA s.data.toList = u) := ⟨_, Lib.hid rfl⟩
        rw [Hu.out] at hU2
        have Hf3 := Lib.hid (show normF s = if u = inboxL then some ⟨inboxL.toArray⟩ else some s by rw [Hf2.out, Hu.out])
        by_cases hin : u = inboxL
        · have t1 : (u == [73, 78, 66, 79, 88]) = true := by rw [hin]; rfl
          have Hin := Lib.hid hin; clear hin
          go_wp2_with fail
          refine hU2.mono ?_; rintro e w2 ⟨rfl, hb2⟩
          go_wp2
          go_ret2
          exact ⟨by rw [Hf3.out, if_pos Hin.out]; rfl, (hb1 _).trans (hb2.mono (by simp))⟩
        · have t1 : (u == [73, 78, 66, 79, 88]) = false := beq_eq_false_iff_ne.2 hin
          have Hin := Lib.hid hin; clear hin
          go_wp2_with fail
          refine hU2.mono ?_; rintro e w2 ⟨rfl, hb2⟩
          go_wp2
          go_ret2
          exact ⟨by rw [Hf3.out, if_neg Hin.out]; rfl, (hb1 _).trans (hb2.mono (by simp))⟩
end Go.Proofs.YtilcfpaimhiofaaGreatDoor
