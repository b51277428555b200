/- parse.Parse: what of it the laws ask. -/
import Derived.Test.YtilcfpaimhiofaaGreatDoorP11
import Derived.Test.YtilcfpaimhiofaaGreatDoorP6
import Derived.Test.YtilcfpaimhiofaaGreatDoorBlk
namespace Go.Proofs.YtilcfpaimhiofaaGreatDoor
open Go.RowKit

theorem tokensL_bd (n : Nat) : ∀ l d ts, tokensL n l d = some ts → ts.length ≤ n ∧ ∀ t ∈ ts, t.text.length ≤ l.length := by
  induction n with
  | zero =>
    intro l d ts h
    unfold tokensL at h
    split at h
    · split at h
      · cases h; simp
      · cases h
    · split at h <;> cases h
  | succ n ih =>
    intro l d ts h
    unfold tokensL at h
    split at h
    · split at h
      · cases h; simp
      · cases h
    · split at h
      · cases h
      · simp only at h
        split at h
        · cases h
        · split at h
          · cases h
          · rw [Option.map_eq_some_iff] at h
            obtain ⟨r, hr, rfl⟩ := h
            have ih' := ih _ _ _ hr
            have h1 := oneF_le l
            have h2 := apartF_le (oneF l).2.1 (oneF l).1.kind
            refine ⟨by simp; omega, fun t ht => ?_⟩
            rcases List.mem_cons.1 ht with rfl | ht
            · exact h1.1
            · have := ih'.2 t ht; omega

/-- a command's values -/
structure CV where
  tag : ByteArray
  nm : ByteArray
  uid : Bool
  user : ByteArray
  pass : ByteArray
  box : ByteArray
  ref : ByteArray
  pat : ByteArray
  flags : Int
  how : Int
  silent : Bool
  hasd : Bool
  date : Int
  oct : Option Addr × Nat × Nat
  set : Option Addr × Nat × Nat
  items : Option Addr × Nat × Nat
  keys : Option Addr × Nat × Nat
def CV.cells (c : CV) : Array Value := #[.string c.tag, .string c.nm, .bool c.uid, .string c.user, .string c.pass, .string c.box, .string c.ref, .string c.pat, .int .i64 c.flags, .int .i64 c.how, .bool c.silent, .bool c.hasd, .int .i64 c.date, .slice c.oct.1 c.oct.2.1 c.oct.2.2, .slice c.set.1 c.set.2.1 c.set.2.2, .slice c.items.1 c.items.2.1 c.items.2.2, .slice c.keys.1 c.keys.2.1 c.keys.2.2]
def noneCV (t : ByteArray) : CV := ⟨t, ⟨#[]⟩, false, ⟨#[]⟩, ⟨#[]⟩, ⟨#[]⟩, ⟨#[]⟩, ⟨#[]⟩, 0, 0, false, false, 0, (none, 0, 0), (none, 0, 0), (none, 0, 0), (none, 0, 0)⟩
def noopL : List UInt8 := [97, 32, 110, 111, 111, 112]
def NOOP : ByteArray := ⟨#[78, 79, 79, 80]⟩

/-- a command's cells -/
def CmdA (cs : Array Value) : Prop := cs.size = 17 ∧ ∀ j u, cs[j]? = some u → fieldOk j u
theorem fieldOk_one {j : Nat} {u : Value} (h : fieldOk j u) : u.oneCell' = true := by
  unfold fieldOk at h
  split at h
  · obtain ⟨b, rfl⟩ := h; rfl
  · split at h
    · obtain ⟨b, rfl⟩ := h; rfl
    · split at h
      · obtain ⟨a, n, c, rfl⟩ := h; rfl
      · obtain ⟨b, rfl⟩ := h; rfl
theorem CmdA.one {cs : Array Value} (h : CmdA cs) : cs.all (·.oneCell') = true := by
  rw [Array.all_eq_true]
  intro i hi
  exact fieldOk_one (h.2 i _ (Array.getElem?_eq_getElem hi))
theorem CmdA.ofCV (c : CV) : CmdA c.cells := by
  refine ⟨rfl, fun j u hu => ?_⟩
  have hj : j < 17 := (Array.getElem?_eq_some_iff.1 hu).1
  unfold CV.cells at hu
  match j, hj with
  | 0, _ => cases hu; simp [fieldOk]
  | 1, _ => cases hu; simp [fieldOk]
  | 2, _ => cases hu; simp [fieldOk]
  | 3, _ => cases hu; simp [fieldOk]
  | 4, _ => cases hu; simp [fieldOk]
  | 5, _ => cases hu; simp [fieldOk]
  | 6, _ => cases hu; simp [fieldOk]
  | 7, _ => cases hu; simp [fieldOk]
  | 8, _ => cases hu; simp [fieldOk]
  | 9, _ => cases hu; simp [fieldOk]
  | 10, _ => cases hu; simp [fieldOk]
  | 11, _ => cases hu; simp [fieldOk]
  | 12, _ => cases hu; simp [fieldOk]
  | 13, _ => cases hu; simp [fieldOk]
  | 14, _ => cases hu; simp [fieldOk]
  | 15, _ => cases hu; simp [fieldOk]
  | 16, _ => cases hu; simp [fieldOk]

/-- what Parse hands back -/
def ParseP (l : List UInt8) (w : World) (e : Ending) (w' : World) : Prop :=
  ∃ (cs : Array Value) (ok : Bool), e = .returned (.tuple #[.agg cs, .bool ok]) ∧ CmdA cs ∧ (ok = false → cs = (noneCV (tagF l)).cells) ∧ (l = noopL → ok = true ∧ cs[0]? = some (.string ⟨#[97]⟩) ∧ cs[1]? = some (.string NOOP)) ∧ Below w.heap.size w w'
theorem tokens_noop : tokensF noopL = some [⟨1, [97]⟩, ⟨1, [110, 111, 111, 112]⟩] := by decide +kernel
theorem row_cmd : IsRow 38 17 := ⟨⟨_, Tryz.underlying38, rfl⟩, by kernel_rfl⟩

theorem take_oneN (R N : Nat) (a : Int) (ts : List Tok) (bad : Bool) (w : World) (hr : ReadAt w R ts bad) (hN : N = w.heap.size) :
    Calls Tryz.prog 18 #[.pointer (some ⟨R, 0, none⟩), .slice (some ⟨N, 0, none⟩) 1 1] (w.alloc (.cells #[.int .i64 a] 3)) fun e w' => e = .returned (.string (takeF [a] ts bad).1) ∧ ReadAt w' R (takeF [a] ts bad).2.1 (takeF [a] ts bad).2.2 ∧ Touch [R] w w' := by
  rw [hN]; exact take_one R a ts bad w hr

set_option maxHeartbeats 4000000 in
set_option maxRecDepth 100000 in
theorem parse_any (v : Value) (l : List UInt8) (w : World) (hG : Glob w) (hv : BytesAt w v l) (hl : l.length ≤ 4294967000) :
    Calls Tryz.prog 12 #[v] w (ParseP l w) := by
  have hA0 : Below w.heap.size w (w.alloc (.cells #[.string ⟨#[]⟩, .string ⟨#[]⟩, .bool false, .string ⟨#[]⟩, .string ⟨#[]⟩, .string ⟨#[]⟩, .string ⟨#[]⟩, .string ⟨#[]⟩, .int .i64 0, .int .i64 0, .bool false, .bool false, .int .i64 0, .slice none 0 0, .slice none 0 0, .slice none 0 0, .slice none 0 0] 38)) := (Below.refl _ _).alloc (Nat.le_refl _) _
  have HZ : Blk (w.alloc (.cells #[.string ⟨#[]⟩, .string ⟨#[]⟩, .bool false, .string ⟨#[]⟩, .string ⟨#[]⟩, .string ⟨#[]⟩, .string ⟨#[]⟩, .string ⟨#[]⟩, .int .i64 0, .int .i64 0, .bool false, .bool false, .int .i64 0, .slice none 0 0, .slice none 0 0, .slice none 0 0, .slice none 0 0] 38)) w.heap.size (noneCV ⟨#[]⟩).cells 38 := Blk.new w _ _
  go_enter Tryz.func12, Tryz.ntmps12
  go_wp2_with fail
  refine (tag_any v l _ (hG.below hA0) (hv.below hA0) (by omega)).mono ?_; rintro e w1 ⟨rfl, hb1⟩
  obtain ⟨tg, htag⟩ : ∃ tg, tagF l = tg := ⟨_, rfl⟩
  have Htag := Lib.hid htag
  rw [htag]
  clear htag
  have HZ1 := HZ.below hb1
  have ht1 : Touch [] w w1 := (Touch.ofBelow hA0).below hb1
  have hA1 : Below w1.heap.size w1 (w1.alloc (.cells #[.string tg, .string ⟨#[]⟩, .bool false, .string ⟨#[]⟩, .string ⟨#[]⟩, .string ⟨#[]⟩, .string ⟨#[]⟩, .string ⟨#[]⟩, .int .i64 0, .int .i64 0, .bool false, .bool false, .int .i64 0, .slice none 0 0, .slice none 0 0, .slice none 0 0, .slice none 0 0] 38)) := (Below.refl _ _).alloc (Nat.le_refl _) _
  have HN : Blk (w1.alloc (.cells #[.string tg, .string ⟨#[]⟩, .bool false, .string ⟨#[]⟩, .string ⟨#[]⟩, .string ⟨#[]⟩, .string ⟨#[]⟩, .string ⟨#[]⟩, .int .i64 0, .int .i64 0, .bool false, .bool false, .int .i64 0, .slice none 0 0, .slice none 0 0, .slice none 0 0, .slice none 0 0] 38)) w1.heap.size (noneCV tg).cells 38 := Blk.new w1 _ _
  have ht2 := ht1.below hA1
  go_wp2_with fail
  refine (tokens_any v l _ (hG.touch ht2 (by simp)) (hv.keeps ht2 (by simp)) (by omega)).mono ?_; rintro e w3 ⟨tv, ok, rfl, hp, hb3⟩
  have HB4 := HN.below hb3
  have HB2 := (HZ1.below hA1).below hb3
  have ht3 := ht2.below hb3
  have hsz1 : w.heap.size < w1.heap.size := HZ1.lt
  have hsz3 : w1.heap.size < w3.heap.size := HB4.lt
  have hs3 : (w1.alloc (.cells #[.string tg, .string ⟨#[]⟩, .bool false, .string ⟨#[]⟩, .string ⟨#[]⟩, .string ⟨#[]⟩, .string ⟨#[]⟩, .string ⟨#[]⟩, .int .i64 0, .int .i64 0, .bool false, .bool false, .int .i64 0, .slice none 0 0, .slice none 0 0, .slice none 0 0, .slice none 0 0] 38)).heap.size = w1.heap.size + 1 := by simp
  have h9 := hG.size
  rw [hs3] at hp
  have hG3 := hG.touch ht3 (by simp)
  have hz0 := CmdA.ofCV (noneCV ⟨#[]⟩)
  have hz1 := CmdA.ofCV (noneCV tg)
  generalize (noneCV ⟨#[]⟩).cells = zz at HZ HZ1 HB2 hz0
  have Hcv : Hid ((noneCV tg).cells = (noneCV (tagF l)).cells) := by rw [Htag.out]; exact Lib.hid rfl
  obtain ⟨ncv, hncv⟩ : ∃ x, (noneCV tg).cells = x := ⟨_, rfl⟩
  rw [hncv] at HN HB4 hz1 Hcv
  clear hncv
  clear HZ HN HZ1 hA0 hA1 hb1 hb3 ht1 ht2 hs3
  cases htk : tokensF l with
  | none =>
    rw [htk] at hp
    obtain ⟨rfl, rfl⟩ := hp
    have hno : ¬ l = noopL := by intro h; rw [h, tokens_noop] at htk; cases htk
    clear htk hG3
    have hno' := hno
    have HL := HB4
    have HS := HB2
    have htf := Touch.setRow ht3 (g := w.heap.size) (.inr (Nat.le_refl _)) ncv
    have HF := HS.setRow ncv
    clear hG hv
    go_wp2_with (first | (refine load_blk rfl rfl rfl HL (by rw [hz1.1]; exact row_cmd) ?_) | (refine store_blk rfl rfl rfl rfl HS (by rw [hz1.1]; exact row_cmd) (by rw [hz1.1, hz0.1]) hz1.one ?_))
    exact bodyPost_ret (v := .tuple #[.agg ncv, .bool false]) (by exact results_cs Tryz.results12 rfl HF (by rw [hz1.1]; exact row_cmd)) rfl ⟨ncv, false, rfl, hz1, fun _ => Hcv.out, fun h => absurd h hno, htf.toBelow⟩
  | some ts =>
    rw [htk] at hp
    obtain ⟨hown, rfl⟩ := hp
    have hbd := tokensL_bd 200 l 0 ts htk
    have hts : l = noopL → ts = [⟨1, [97]⟩, ⟨1, [110, 111, 111, 112]⟩] := by intro h; rw [h, tokens_noop] at htk; cases htk; rfl
    obtain ⟨ta, tc, rfl⟩ := hown.shape
    have hR0 : ReadAt (w3.alloc (.cells #[.slice ta ts.length tc, .bool false] 57)) w3.heap.size ts false :=
      ⟨_, Blk.new _ _ _, (hown.alloc _).at, (fun b off n c e => by have h := (hown.lt b (by rw [e]; rfl)).2; exact h), hbd.1, fun t ht => by have := hbd.2 t ht; omega⟩
    have htR : Touch [] w (w3.alloc (.cells #[.slice ta ts.length tc, .bool false] 57)) := ht3.alloc _
    have HB4' : Blk (w3.alloc (.cells #[.slice ta ts.length tc, .bool false] 57)) w1.heap.size ncv 38 := HB4.touch ((Touch.refl [] _).alloc _) (by simp)
    have HB2' : Blk (w3.alloc (.cells #[.slice ta ts.length tc, .bool false] 57)) w.heap.size zz 38 := HB2.touch ((Touch.refl [] _).alloc _) (by simp)
    clear htk hown
    go_upto_region 6 with fail
    go_cut [7, 8] (fun rv cv wx => rv = .pointer (some ⟨w3.heap.size, 0, none⟩) ∧ ∃ (C : Nat) (nm s1 : ByteArray) (ts' : List Tok) (bad' : Bool), cv = .pointer (some ⟨C, 0, none⟩) ∧ ReadAt wx w3.heap.size ts' bad' ∧ Cmd wx C nm ∧ wx.cell? ⟨C, 0, none⟩ = some (.string s1) ∧ w3.heap.size < C ∧ s1.size ≤ 4294967000 ∧
      Blk wx w1.heap.size ncv 38 ∧ Blk wx w.heap.size zz 38 ∧ Touch [] w wx ∧ (l = noopL → ts' = [] ∧ bad' = false ∧ s1 = ⟨#[97]⟩ ∧ nm = NOOP))
    case first =>
      go_wp2_with fail
      refine (take_oneN _ _ 1 ts false _ hR0 (by simp)).mono ?_; rintro e w5 ⟨rfl, hr5, ht5⟩
      have hx1 := takeF_text [1] ts false (fun t ht => by have := hbd.2 t ht; omega)
      have hx1n : l = noopL → takeF [1] ts false = (⟨#[97]⟩, [⟨1, [110, 111, 111, 112]⟩], false) := by intro h; rw [hts h]; rfl
      generalize takeF [1] ts false = x1 at hr5 hx1 hx1n
      obtain ⟨s1, ts1, b1⟩ := x1
      have hw5 := htR.call ht5 (by intro i hi; simp at hi; right; omega)
      have HB4'' := HB4'.touch ht5 (by simp; omega)
      have HB2'' := HB2'.touch ht5 (by simp; omega)
      go_wp2_with fail
      refine (take_one _ 1 ts1 b1 w5 hr5).mono ?_; rintro e w6 ⟨rfl, hr6, ht6⟩
      have hx2 : (takeF [1] ts1 b1).1.size ≤ 4294967000 := takeF_text [1] ts1 b1 (by obtain ⟨_, _, _, _, h5⟩ := hr5; exact h5.2)
      have hx2n : l = noopL → takeF [1] ts1 b1 = (⟨#[110, 111, 111, 112]⟩, [], false) := by intro h; have h' := hx1n h; simp only [Prod.mk.injEq] at h'; rw [h'.2.1, h'.2.2]; rfl
      generalize takeF [1] ts1 b1 = x2 at hr6 hx2 hx2n
      obtain ⟨s2, ts2, b2⟩ := x2
      have hw6 := hw5.call ht6 (by intro i hi; simp at hi; right; omega)
      have HB4c := HB4''.touch ht6 (by simp; omega)
      have HB2c := HB2''.touch ht6 (by simp; omega)
      go_wp2_with fail
      refine (great_any s2 w6 (by have : s2.size ≤ 4294967000 := hx2; omega)).mono ?_; rintro e w7 ⟨rfl, hb7⟩
      have hgn : l = noopL → (⟨(s2.data.toList.map upB).toArray⟩ : ByteArray) = NOOP := by intro h; have h' := hx2n h; simp only [Prod.mk.injEq] at h'; rw [h'.1]; rfl
      generalize (⟨(s2.data.toList.map upB).toArray⟩ : ByteArray) = g at hgn
      have hr7 := hr6.below hb7
      have hRw7 := hr7.lt
      go_wp2_with fail
      go_meet
      refine ⟨rfl, w7.heap.size, g, s1, ts2, b2, rfl, hr7.touch ((Touch.refl [] _).alloc _) (by simp), ⟨_, Blk.new _ _ _, rfl, rfl, ?_⟩, (Blk.new w7 _ _).cell 0, hRw7, hx1, (HB4c.below hb7).touch ((Touch.refl [] _).alloc _) (by simp), (HB2c.below hb7).touch ((Touch.refl [] _).alloc _) (by simp), (hw6.below hb7).alloc _, fun h => ?_⟩
      · intro j u hu
        have hj : j < 17 := (Array.getElem?_eq_some_iff.1 hu).1
        match j, hj with
        | 0, _ => cases hu; simp [fieldOk]
        | 1, _ => cases hu; simp [fieldOk]
        | 2, _ => cases hu; simp [fieldOk]
        | 3, _ => cases hu; simp [fieldOk]
        | 4, _ => cases hu; simp [fieldOk]
        | 5, _ => cases hu; simp [fieldOk]
        | 6, _ => cases hu; simp [fieldOk]
        | 7, _ => cases hu; simp [fieldOk]
        | 8, _ => cases hu; simp [fieldOk]
        | 9, _ => cases hu; simp [fieldOk]
        | 10, _ => cases hu; simp [fieldOk]
        | 11, _ => cases hu; simp [fieldOk]
        | 12, _ => cases hu; simp [fieldOk]
        | 13, _ => cases hu; simp [fieldOk]
        | 14, _ => cases hu; simp [fieldOk]
        | 15, _ => cases hu; simp [fieldOk]
        | 16, _ => cases hu; simp [fieldOk]
      · have h1 := hx1n h
        have h2 := hx2n h
        simp only [Prod.mk.injEq] at h1 h2
        exact ⟨h2.2.1, h2.2.2, h1.1, hgn h⟩
    case rest =>
      obtain ⟨rfl, C, nm, s1, ts', bad', rfl, hr, hC, hC0, hRC, hs1, HB4c, HB2c, htc, hn⟩ := hcut
      clear HB4 HB2 HB4' HB2' hR0 htR hv ht3
      have hGc := hG.touch htc (by simp)
      have hr' := hr
      obtain ⟨rv, hRB, hRT, _, hRl, _⟩ := hr'
      obtain ⟨ra, rc, rfl⟩ : ∃ a c, rv = .slice a ts'.length c := by
        rcases hRT with ⟨rfl, c, rfl⟩ | ⟨b, off, c, rfl, _⟩
        · exact ⟨_, _, rfl⟩
        · exact ⟨_, _, rfl⟩
      have hc0 : wc.cell? ⟨w3.heap.size, 0, none⟩ = some (.slice ra ts'.length rc) := hRB.cell 0
      have hc1 : wc.cell? ⟨w3.heap.size, 1, none⟩ = some (.bool bad') := hRB.cell 1
      cases bad' with
      | true =>
        have hno : ¬ l = noopL := fun h => by have := (hn h).2.1; cases this
        clear hGc hG3 hbd hts hn hr hRT
        have hno' := hno
        have HL := HB4c
        have HS := HB2c
        have htf := Touch.setRow htc (g := w.heap.size) (.inr (Nat.le_refl _)) ncv
        have HF := HS.setRow ncv
        clear hG
        go_wp2_with (first | (refine load_blk rfl rfl rfl HL (by rw [hz1.1]; exact row_cmd) ?_) | (refine store_blk rfl rfl rfl rfl HS (by rw [hz1.1]; exact row_cmd) (by rw [hz1.1, hz0.1]) hz1.one ?_))
        exact bodyPost_ret (v := .tuple #[.agg ncv, .bool false]) (by exact results_cs Tryz.results12 rfl HF (by rw [hz1.1]; exact row_cmd)) rfl ⟨ncv, false, rfl, hz1, fun _ => Hcv.out, fun h => absurd h hno, htf.toBelow⟩
      | false =>
        have hTg := tagged_any s1 wc (by omega)
        go_wp2_with fail
        refine hTg.mono ?_; rintro e wd ⟨rfl, rfl⟩
        clear hTg
        cases htg : taggedL s1.data.toList with
        | false =>
          have hno : ¬ l = noopL := fun h => by rw [(hn h).2.2.1] at htg; revert htg; decide
          clear hGc hG3 hbd hts hn hr hRT htg
          have hno' := hno
          have HL := HB4c
          have HS := HB2c
          have htf := Touch.setRow htc (g := w.heap.size) (.inr (Nat.le_refl _)) ncv
          have HF := HS.setRow ncv
          clear hG
          go_wp2_with (first | (refine load_blk rfl rfl rfl HL (by rw [hz1.1]; exact row_cmd) ?_) | (refine store_blk rfl rfl rfl rfl HS (by rw [hz1.1]; exact row_cmd) (by rw [hz1.1, hz0.1]) hz1.one ?_))
          exact bodyPost_ret (v := .tuple #[.agg ncv, .bool false]) (by exact results_cs Tryz.results12 rfl HF (by rw [hz1.1]; exact row_cmd)) rfl ⟨ncv, false, rfl, hz1, fun _ => Hcv.out, fun h => absurd h hno, htf.toBelow⟩
        | true =>
          have hBo : Both w3.heap.size C nm wd wd := ⟨⟨ts', false, hr⟩, hC, Touch.refl _ _⟩
          go_wp2_with fail
          refine (arguments_s hBo hRC hGc (by omega)).mono ?_; rintro e w4 ⟨rfl, ⟨nm', hB4⟩, hnoop⟩
          have ht4 : Touch [] w w4 := htc.call hB4.touch (by intro i hi; simp at hi; right; omega)
          have HB4f : Blk w4 w1.heap.size ncv 38 := HB4c.touch hB4.touch (by simp; omega)
          have HB2f : Blk w4 w.heap.size zz 38 := HB2c.touch hB4.touch (by simp; omega)
          have hsame : l = noopL → w4 = wd := fun h => hnoop (hn h).2.2.2
          have hs0 : l = noopL → ∀ s, w4.cell? ⟨C, 0, none⟩ = some (.string s) → s = ⟨#[97]⟩ := fun h s hs => by rw [hsame h, hC0, (hn h).2.2.1] at hs; cases hs; rfl
          have hs1' : l = noopL → ∀ s, w4.cell? ⟨C, 1, none⟩ = some (.string s) → s = NOOP := fun h s hs => by rw [hsame h, hC.name, (hn h).2.2.2] at hs; cases hs; rfl
          have hs1 := hs1'
          clear hs1'
          have hlen : l = noopL → ts'.length = 0 := fun h => by rw [(hn h).1]; rfl
          obtain ⟨qa, qn, qc, qb, hqn, hq0, hq1, _, _⟩ := hB4.reads.cells
          have hqb : l = noopL → qb = false := fun h => by rw [hsame h, hc1] at hq1; cases hq1; rfl
          have hqn0 : l = noopL → qn = 0 := fun h => by rw [hsame h, hc0] at hq0; have h0 := hlen h; cases hq0; exact h0
          clear hGc hG3 hbd hts hn hr hRT htg hC0 hc0 hc1 hsame hnoop hlen HB4c HB2c htc hBo hC hRB
          cases qb with
          | true =>
            have hno : ¬ l = noopL := fun h => by have := hqb h; cases this
            clear hs0 hs1 hqb hqn0
            have hno' := hno
            have HL := HB4f
            have HS := HB2f
            have htf := Touch.setRow ht4 (g := w.heap.size) (.inr (Nat.le_refl _)) ncv
            have HF := HS.setRow ncv
            clear hG
            go_wp2_with (first | (refine load_blk rfl rfl rfl HL (by rw [hz1.1]; exact row_cmd) ?_) | (refine store_blk rfl rfl rfl rfl HS (by rw [hz1.1]; exact row_cmd) (by rw [hz1.1, hz0.1]) hz1.one ?_))
            exact bodyPost_ret (v := .tuple #[.agg ncv, .bool false]) (by exact results_cs Tryz.results12 rfl HF (by rw [hz1.1]; exact row_cmd)) rfl ⟨ncv, false, rfl, hz1, fun _ => Hcv.out, fun h => absurd h hno, htf.toBelow⟩
          | false =>
            by_cases hq : 0 < qn
            · have hno : ¬ l = noopL := fun h => by have := hqn0 h; omega
              clear hs0 hs1 hqb hqn0
              have hno' := hno
              have HL := HB4f
              have HS := HB2f
              have htf := Touch.setRow ht4 (g := w.heap.size) (.inr (Nat.le_refl _)) ncv
              have HF := HS.setRow ncv
              clear hG
              go_wp2_with (first | (refine load_blk rfl rfl rfl HL (by rw [hz1.1]; exact row_cmd) ?_) | (refine store_blk rfl rfl rfl rfl HS (by rw [hz1.1]; exact row_cmd) (by rw [hz1.1, hz0.1]) hz1.one ?_))
              exact bodyPost_ret (v := .tuple #[.agg ncv, .bool false]) (by exact results_cs Tryz.results12 rfl HF (by rw [hz1.1]; exact row_cmd)) rfl ⟨ncv, false, rfl, hz1, fun _ => Hcv.out, fun h => absurd h hno, htf.toBelow⟩
            · clear hqb hqn0 hG
              obtain ⟨cs, hCB, hC17, hC1, hCf⟩ := hB4.cmd
              have hca : CmdA cs := ⟨hC17, hCf⟩
              have c0 : l = noopL → cs[0]? = some (.string ⟨#[97]⟩) := fun h => by
                obtain ⟨y, d0, k0⟩ := hB4.cmd.field 0 (by omega)
                rw [fieldOk, if_neg (by decide), if_neg (by decide), if_neg (by decide)] at k0
                obtain ⟨v0, rfl⟩ := k0
                have := hs0 h v0 d0
                rw [hCB.cell 0] at d0
                rw [d0, this]
              have c1 : l = noopL → cs[1]? = some (.string NOOP) := fun h => by
                rw [hC1]; have := hs1 h nm' hB4.cmd.name; rw [this]
              have htf := Touch.setRow ht4 (g := w.heap.size) (.inr (Nat.le_refl _)) cs
              have HF := HB2f.setRow cs
              clear hs0 hs1 hB4
              go_wp2_with (first | (refine load_blk rfl rfl rfl hCB (by rw [hca.1]; exact row_cmd) ?_) | (refine store_blk rfl rfl rfl rfl HB2f (by rw [hca.1]; exact row_cmd) (by rw [hca.1, hz0.1]) hca.one ?_))
              exact bodyPost_ret (v := .tuple #[.agg cs, .bool true]) (by exact results_cs Tryz.results12 rfl HF (by rw [hca.1]; exact row_cmd)) rfl ⟨cs, true, rfl, hca, (fun h => by cases h), fun h => ⟨rfl, c0 h, c1 h⟩, htf.toBelow⟩
end Go.Proofs.YtilcfpaimhiofaaGreatDoor
