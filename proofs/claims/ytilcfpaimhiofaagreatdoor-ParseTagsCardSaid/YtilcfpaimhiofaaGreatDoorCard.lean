/- What the cards of this seat share: an argument that is read behind the call as before; what the listed variables give a walk. -/
import Derived.Test.YtilcfpaimhiofaaGreatDoorRows
import Derived.Test.YtilcfpaimhiofaaGreatDoorWrap
import Derived.Carry
import Derived.Below
import Derived.ChangeSame
import Derived.ChangeOld
import Derived.LaidLaws
import Derived.LaidSub
import Derived.Lib.LaidU8
import Derived.Lib.LaidTab
import Derived.Shelf.Vars
import Derived.Lay
import Derived.LaidMore
import Derived.Deep.DeepHandedRow
namespace Go.Proofs.YtilcfpaimhiofaaGreatDoor
open Go.ChangeShapes Go.WideShapes Go.ChangeAt Go.RowKit

theorem own : ownKnob Tryz.prog.godebug = none := by kernel_rfl
theorem laidOut : laidOutB Tryz.prog = true := by kernel_rfl

/-- ARGS: below the heap's old size nothing has turned -/
theorem trodAll_stays {P : Program} (hl : laidOutB P = true) {H : Type} {enc : TypeId × Value → H} {W W' : World} {sp : Nat → Bool} (ts : List TypeId) :
    ∀ {vs : List Value} {ds : List (DataW H)} {ps : List MemPlace}, (ts.all fun t => P.readableRec t && decide (t < P.types.size)) = true → DataW.TrodAll enc P W 0 (fun _ => true) true ts vs ds ps → (∀ p ∈ ps, W.sameAt W' p) → (∀ p ∈ ps, sp p.block = true) →
    DataW.TrodAll enc P W' 0 sp true ts vs ds ps := by
  induction ts with
  | nil =>
    intro vs ds ps _ h _ _
    cases vs <;> cases ds <;> first | exact h | exact h.elim
  | cons t ts ih =>
    intro vs ds ps ha h hs hp
    cases vs with
    | nil => exact h.elim
    | cons v vs =>
      cases ds with
      | nil => exact h.elim
      | cons d ds =>
        obtain ⟨p, q, h1, h2, rfl⟩ := h
        simp only [List.all_cons, Bool.and_eq_true, decide_eq_true_eq] at ha
        exact ⟨p, q, WideElems.Trod_stays hl ha.1.1 ha.1.2 h1 (fun x hx => hs x (by simp [hx])) (fun x hx => hp x (by simp [hx])),
          ih ha.2 h2 (fun x hx => hs x (by simp [hx])) (fun x hx => hp x (by simp [hx])), rfl⟩
theorem trodAll_length {P : Program} {H : Type} {enc : TypeId × Value → H} {W : World} (ts : List TypeId) : ∀ {vs : List Value} {ds : List (DataW H)} {ps : List MemPlace}, DataW.TrodAll enc P W 0 (fun _ => true) true ts vs ds ps → ds.length = ts.length := by
  induction ts with
  | nil => intro vs ds ps h; cases vs <;> cases ds <;> first | rfl | exact h.elim
  | cons t ts ih =>
    intro vs ds ps h
    cases vs with
    | nil => exact h.elim
    | cons v vs =>
      cases ds with
      | nil => exact h.elim
      | cons d ds =>
        obtain ⟨_, _, _, h2, _⟩ := h
        simp [ih h2]

set_option maxRecDepth 100000 in
/-- A law's post: it has answered true, and has written into memory of its own alone. -/
theorem post_law {H : Type} {enc : TypeId × Value → H} {f : Func} {s : ChangeSpec} {W W' : World} {args : Array Value} {ds gs : List (DataW H)} {before : List MemPlace}
    (hW : DataW.Whole enc Tryz.prog f.params.toList s.vars false W args.toList ds gs before) (hv : s.vars = []) (hf : ∀ ds : List (DataW H), ds.length = f.params.size → s.fn H ds = { results := [.lit (.bool true)], args := ds })
    (hr : f.resultTypes = #[4]) (hro : (f.params.toList.all fun t => Tryz.prog.readableRec t && decide (t < Tryz.prog.types.size)) = true) (hb : Below W.heap.size W W') :
    s.post enc Tryz.prog f false true false false W args (.bool true) W' := by
  have hlt : ∀ p ∈ before, p.block < W.heap.size := fun p hp => hW.lt p hp
  have hW0 := hW
  obtain ⟨p, q, hA, hV, rfl, hz, hn⟩ := hW
  rw [hv] at hV
  obtain ⟨rfl, rfl⟩ := trodVars_none hV
  have hlen : ds.length = f.params.size := by rw [trodAll_length _ hA]; simp
  have hfn : s.fn H (ds ++ []) = { results := [.lit (.bool true)], args := ds } := by rw [List.append_nil]; exact hf ds hlen
  have hsame : ∀ x ∈ p, W.sameAt W' x := fun x hx => hb.same (hlt x (by simp [hx]))
  have hres : ∀ (b : Nat) (sp : Nat → Bool) (hd : Bool), DataW.TrodAll enc Tryz.prog W' b sp hd f.resultTypes.toList ((Value.bool true).resultList f.resultTypes.size) (s.fn H (ds ++ [])).results [] := by
    intro b sp hd; rw [hfn, hr]; exact trodAll_mk1 (shut_bool Tryz.underlying4 true)
  have hargs : ∀ sp : Nat → Bool, (∀ x ∈ p ++ [], sp x.block = true) → DataW.TrodAll enc Tryz.prog W' 0 sp true f.params.toList args.toList (s.fn H (ds ++ [])).args p := by
    intro sp hsp; rw [hfn]
    exact trodAll_stays laidOut _ hro hA hsame (fun x hx => hsp x (by simp [hx]))
  have hvars : ∀ sp : Nat → Bool, DataW.TrodVars enc Tryz.prog W' sp s.vars (s.fn H (ds ++ [])).vars [] := by
    intro sp; rw [hfn, hv]; rfl
  have hold : ∀ x ∈ p ++ [], (fun b => decide (b < W.heap.size)) x.block = true := fun x hx => by simpa using hlt x hx
  refine ⟨ds, [], p ++ [], [], p, [], hW0, hres _ _ _, hargs _ hold, hvars _, World.keptBut_mono (fun x hx => ⟨hx, ?_⟩) (hb.frame (· ∈ p ++ [])), fun _ => ?_⟩
  · exact Or.inr (by simpa using hx)
  · refine ⟨ok_one hr rfl (okWide_bool_mk Tryz.underlying4 true), _, _, ([] ++ p) ++ [], ⟨[] ++ p, [], trodAll_append (hargs _ (fun _ _ => rfl)) (hres _ _ _), hvars _, rfl, ?_, ?_⟩, ?_⟩
    · intro b off hp
      have hin : MemPlace.cell b off ∈ p ++ [] := by simpa using hp
      rw [hb.frozen (hlt _ hin)]
      exact hz b off hin
    · intro ha; cases ha
    · intro x hx _
      simpa using hx

/-- what the listed variables and the world's shape give the library's contracts -/
theorem iface_of_reads {W : World} {n nm : String} {d : DataW Unit} {g t : Nat} {ms : Array (String × TypeId)} (hg : Tryz.prog.globalNamed n = some g) (ht : (Tryz.prog.globals[g]?).map (·.type) = some t) (hi : Tryz.prog.underlying t = some (.interface ms))
    (h : Lib.VarReads Tryz.prog W n (.iface nm d)) : ∃ u v, W.cell? ⟨g, 0, none⟩ = some (.iface u v) := by
  obtain ⟨g', t', cs, fuel, p, h1, h2, h3, h4⟩ := h
  obtain rfl := Option.some.inj (hg.symm.trans h1)
  obtain rfl := Option.some.inj (ht.symm.trans h2)
  obtain ⟨_, u, v, hcs, _⟩ := iface_of_trod hi h4
  refine ⟨u, v, ?_⟩
  have := World.var?_cell hg h3 0
  rw [this]
  have h0 : cs.toList[0]? = some (.iface u v) := by rw [hcs]; rfl
  simpa using h0
theorem tab_of_reads {W : World} {name : String} {k : IntKind} {zs : List Int} {g : Nat} {t e : TypeId} {n : Nat}
    (hg : Tryz.prog.globalNamed name = some g) (hty : (Tryz.prog.globals[g]?).map (·.type) = some t) (ht : Tryz.prog.underlying t = some (.array n e)) (he : Tryz.prog.underlying e = some (.int k)) (hce : Tryz.prog.cellsOf e = 1) (hct : Tryz.prog.cellsOf t = n)
    (h : Lib.VarReads Tryz.prog W name (Lib.tabData k zs)) : Lib.TabIs Tryz.prog W name k zs := by
  obtain ⟨g', t', cs, fuel, p, h1, h2, h3, h4⟩ := h
  obtain rfl := Option.some.inj (hg.symm.trans h1)
  obtain rfl := Option.some.inj (hty.symm.trans h2)
  unfold Lib.TabIs
  rw [h3, ← Lib.cells_of_tab ht he hce hct h4]

theorem glob_of {W : World} (hsh : W.ShapedOpen Tryz.prog) (h1 : Lib.VarReads Tryz.prog W "strconv.ErrSyntax" Rows.laid_strconv_ErrSyntax) (h2 : Lib.VarReads Tryz.prog W "strconv.ErrRange" Rows.laid_strconv_ErrRange)
    (h3 : Lib.VarReads Tryz.prog W "internal/strconv.uint64pow10" Rows.laid_internal_strconv_uint64pow10) : Glob W := by
  have e : (Rows.laid_internal_strconv_uint64pow10 : DataW Unit) = Lib.tabData .u64 Lib.pow10Tab := by kernel_rfl
  rw [e] at h3
  have ht := tab_of_reads (zs := Lib.pow10Tab) (show Tryz.prog.globalNamed "internal/strconv.uint64pow10" = some 6 by kernel_rfl) (show (Tryz.prog.globals[6]?).map (·.type) = some 205 by kernel_rfl) Tryz.underlying205 Tryz.underlying146 (by kernel_rfl) (by kernel_rfl) h3
  obtain ⟨u1, v1, hc1⟩ := iface_of_reads (show Tryz.prog.globalNamed "strconv.ErrSyntax" = some 2 by kernel_rfl) (show (Tryz.prog.globals[2]?).map (·.type) = some 132 by kernel_rfl) Tryz.underlying132 h1
  obtain ⟨u2, v2, hc2⟩ := iface_of_reads (show Tryz.prog.globalNamed "strconv.ErrRange" = some 3 by kernel_rfl) (show (Tryz.prog.globals[3]?).map (·.type) = some 132 by kernel_rfl) Tryz.underlying132 h2
  obtain ⟨m, hm⟩ := cell_of_shapedOpen_int (g := 0) (t := 3) (zero := #[.int .i64 0]) (k := .i64) hsh (of_decide_eq_true (by kernel_rfl)) (by kernel_rfl) rfl (by kernel_rfl) (by kernel_rfl) Tryz.underlying3
  obtain ⟨cs, hh, _⟩ := hsh.1 8 (Array.replicate 64 (.int .u8 0)) ((Tryz.prog.globals[8]?).map (·.type) |>.getD 0) (of_decide_eq_true (by kernel_rfl)) (by kernel_rfl)
  exact ⟨⟨m, hm⟩, ⟨u1, v1, hc1⟩, ⟨u2, v2, hc2⟩, ht, (Array.getElem?_eq_some_iff.1 hh).1⟩

/-- A slice of bytes that came in: these bytes. -/
theorem bytes_of_argP {P : Program} {T E : TypeId} (hT : P.underlying T = some (.slice E)) (hE : P.underlying E = some (.int .u8)) (hc1 : P.cellsOf E = 1) {H : Type} {enc : TypeId × Value → H} {W : World} {base : Nat} {v : Value} {d : DataW H} {p : List MemPlace} (hv : Value.okWide P W .any base T v) (h : DataW.Trod enc P W 0 (fun _ => true) true T v d p) :
    ∃ l, BytesAt W v l := by
  obtain ⟨fuel, hf⟩ := h
  have hsh : v = .slice none 0 0 ∨ ∃ b off len cap, v = .slice (some ⟨b, off, none⟩) len cap := by
    obtain ⟨a, len, cap, rfl⟩ := okWide_slice hT hv
    cases a with
    | none =>
      left
      unfold Value.okWide Cell.okWide Cell.ok at hv
      simp only [hT] at hv
      split at hv
      all_goals first | rfl | (rename_i e; cases e; done) | contradiction | skip
      all_goals simp_all
    | some a =>
      right
      unfold Value.okWide Cell.okWide Cell.ok at hv
      simp only [hT] at hv
      obtain ⟨_, _, _, hs, _⟩ := hv
      obtain ⟨b, off, sp⟩ := a
      simp only at hs
      subst hs
      exact ⟨b, off, len, cap, rfl⟩
  rcases hsh with rfl | ⟨b, off, len, cap, rfl⟩
  · exact ⟨[], .inl ⟨rfl, 0, rfl⟩⟩
  · rcases open_ints hT hE hc1 hf with ⟨hcs, _⟩ | ⟨a, len', cap', zs, hcs, _, hl, hm, hz, hx, hcell, hwz⟩
    · simp [Value.cells] at hcs
    · simp [Value.cells] at hcs
      obtain ⟨rfl, rfl, rfl⟩ := hcs
      simp only [if_true] at hz
      refine ⟨(zs.take len).map fun z => UInt8.ofNat z.toNat, .inr ⟨b, off, cap, by simp; omega, by simp; omega, hm, fun j hj => ?_⟩⟩
      have hj' : j < len := by simp at hj; omega
      have h1 := hcell j (by omega)
      have hadd : ((⟨b, off, none⟩ : Addr).add j) = ⟨b, off + j, none⟩ := by unfold Addr.add; split <;> simp_all
      rw [hadd] at h1
      rw [h1]
      have hzj : zs.getD j 0 = zs[j]'(by omega) := by simp [List.getD, show j < zs.length by omega]
      have hwj := hwz zs[j] (List.getElem_mem _)
      have hb : 0 ≤ zs[j]'(by omega) ∧ zs[j]'(by omega) ≤ 255 := by simpa [Lit.wf, IntKind.min, IntKind.max, IntKind.signed, IntKind.bits] using hwj
      rw [hzj]
      simp only [List.getElem_map, List.getElem_take]
      congr 2
      simp
      omega
theorem cells_u8 : Tryz.prog.cellsOf 5 = 1 := by kernel_rfl
set_option maxRecDepth 100000 in
theorem bytes_of_arg {H : Type} {enc : TypeId × Value → H} {W : World} {base : Nat} {v : Value} {d : DataW H} {p : List MemPlace} (hv : Value.okWide Tryz.prog W .any base 33 v) (h : DataW.Trod enc Tryz.prog W 0 (fun _ => true) true 33 v d p) :
    ∃ l, BytesAt W v l := bytes_of_argP (P := Tryz.prog) (T := 33) (E := 5) Tryz.underlying33 Tryz.underlying5 cells_u8 hv h
end Go.Proofs.YtilcfpaimhiofaaGreatDoor
