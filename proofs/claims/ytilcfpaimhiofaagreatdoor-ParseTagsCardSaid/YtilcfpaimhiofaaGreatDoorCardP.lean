/- ParseTags: for every slice of bytes cubbylaw16.ParseTags answers true, and the slice reads behind the call as before; the listed variables (tables and sentinels of Go's library) are tied to the program's text. -/
import Derived.Test.YtilcfpaimhiofaaGreatDoorP15
import Derived.Test.YtilcfpaimhiofaaGreatDoorCard
import Derived.Test.YtilcfpaimhiofaaGreatDoorCards
import Derived.Test.YtilcfpaimhiofaaGreatDoorTie
namespace Go.Proofs.YtilcfpaimhiofaaGreatDoor.parseTags
open Go.ChangeShapes Go.WideShapes Go.ChangeAt Go.RowKit

set_option maxRecDepth 100000 in
theorem contract (H : Type) (enc : TypeId × Value → H) (W : World) (base : Nat) (args : Array Value) (ds gs : List (DataW H)) (before : List MemPlace)
    (hval : ∀ (j : Nat) t v, Tryz.f4.params[j]? = some t → args[j]? = some v → Value.okWide Tryz.prog W .any base t v)
    (hW : DataW.Whole enc Tryz.prog Tryz.f4.params.toList Rows.parseTagsSpec.vars false W args.toList ds gs before) (hL : laidMetH Tryz.prog Rows.parseTagsRow.laid W) (hsh : W.ShapedOpen Tryz.prog) :
    Calls Tryz.prog 4 args W fun e W' => ∃ v, e = .returned v ∧ Rows.parseTagsSpec.post enc Tryz.prog Tryz.f4 false true false false W args v W' := by
  have hL' : laidMet Tryz.prog Rows.parseTagsRow.laid W := by rw [MakeChecks.laidMetH_plain _ _ _ (by kernel_rfl)] at hL; exact hL
  have hG : Glob W := glob_of hsh (Lib.laidMet.reads hL' (by simp [Rows.parseTagsRow])) (Lib.laidMet.reads hL' (by simp [Rows.parseTagsRow])) (Lib.laidMet.reads hL' (by simp [Rows.parseTagsRow]))
  have hW0 := hW
  obtain ⟨p, q, hA, hV, rfl, hz, hn⟩ := hW
  have hA1 : DataW.TrodAll enc Tryz.prog W 0 (fun _ => true) true Tryz.f4.params.toList args.toList ds p := hA
  rw [Tryz.params4] at hA1 hval
  obtain ⟨v0, d0, rfl, rfl, h0⟩ := trodAll_one hA1
  obtain ⟨l, hl⟩ := bytes_of_arg (hval 0 33 v0 rfl rfl) h0
  refine (parsetags_any v0 l W hG hl).mono fun e W' ⟨he, hb⟩ => ?_
  subst he
  exact ⟨_, rfl, post_law hW0 rfl (fun ds hds => by
    match ds, hds with
    | [d], _ => rfl) (by kernel_rfl) (by kernel_rfl) hb⟩

theorem laid_met (os : Os) : laidMetH Tryz.prog Rows.parseTagsRow.laid ((World.laidAll Tryz.prog os Rows.parseTagsRow.laid).forCall (fun _ _ => 0) ⟨#[], #[.slice none 0 0], []⟩).memory := by
  rw [MakeChecks.laidMetH_plain _ _ _ (by kernel_rfl)]
  exact laidMet_laidAll _ (by kernel_rfl) (by kernel_rfl)

set_option maxRecDepth 100000 in
theorem lifted (os : Os) (started : os.Started) (H : Type) (enc : TypeId × Value → H) (F : Stop.Interp) :
    ReturnsInHanded {} Tryz.checked os 4 .any ((OpenSpec.ofChange Rows.parseTagsSpec).preRow enc Tryz.prog Tryz.f4 Rows.parseTagsRow.domain false Rows.parseTagsRow.laid) (((OpenSpec.ofChange Rows.parseTagsSpec).at F).post enc Tryz.prog Tryz.f4 false true false false) := by
  refine returnsInHanded_of_row (C := Tryz.checked) (s := OpenSpec.ofChange Rows.parseTagsSpec) own started (by kernel_rfl) Tryz.func4 ?_ ?_
  · have hx : ∃ places, DataW.whole enc Tryz.prog ((World.laidAll Tryz.prog os Rows.parseTagsRow.laid).forCall (fun _ _ => 0) ⟨#[], #[.slice none 0 0], []⟩).memory Tryz.f4.params.toList Rows.parseTagsSpec.vars false #[Value.slice none 0 0].toList 8 = some ([.nil], [], places) := ⟨[], by kernel_rfl⟩
    obtain ⟨places, hx⟩ := hx
    exact ⟨World.laidAll Tryz.prog os Rows.parseTagsRow.laid, fun _ _ => 0, ⟨#[], #[.slice none 0 0], []⟩, World.laidAll_os _ _ _, World.shaped_of_ZipB (by kernel_rfl) (by kernel_rfl), rfl, (Input.okWide_of_okWideB (by kernel_rfl)).2,
      OpenSpec.preRow_of_cond 8 hx (by kernel_rfl) (fun k hk => by cases hk) (by kernel_rfl) (laid_met os), by
        simp only [Assume.holds]
        exact ⟨by simp, by simp, fun _ => Modest.zero, by simp, by simp⟩⟩
  · intro W base args ds gs before hval hW _ _ _ hL hsh _
    exact contract H enc W base args ds gs before hval hW hL hsh

theorem said : Rows.ParseTagsSaid :=
  OpenClaim.holds_of_cond 4 Tryz.f4 rfl rfl rfl rfl rfl rfl rfl ⟨rfl, rfl, rfl, rfl, rfl⟩ rfl rfl rfl rfl rfl (by kernel_rfl) Tryz.func4 (by kernel_rfl)
    (of_decide_eq_true (by kernel_rfl)) (by unfold Func.isWrapper; first | (rw [if_pos (by decide +kernel)]; kernel_rfl) | (rw [if_neg (by decide +kernel)]; exact ⟨rfl, rfl⟩))
    (fun os started H enc _ F => by rw [OpenClaim.pre_eq_preRow]; exact lifted os started H enc F)

theorem plain (f : FuncId) (fn : Func) (hf : Tryz.pinned.checked.prog.funcNamed "cubby/cubbylaw16.ParseTags" = some f) (hfn : Tryz.pinned.checked.prog.funcs[f]? = some fn) :
    true = Tryz.pinned.checked.prog.looks [] ∧ ∀ (j : Nat) t, fn.params[j]? = some t → Tryz.pinned.checked.prog.wantsStandIn t = false := by
  obtain rfl : f = 4 := Option.some.inj ((show Tryz.prog.funcNamed "cubby/cubbylaw16.ParseTags" = some 4 by kernel_rfl).symm.trans hf) |>.symm
  obtain rfl : fn = Tryz.f4 := (Option.some.inj (Tryz.func4.symm.trans hfn)).symm
  refine ⟨by kernel_rfl, fun j t ht => ?_⟩
  rw [Tryz.params4] at ht
  obtain rfl : t = 33 := by simpa using Array.mem_of_getElem? ht
  exact (show Tryz.prog.wantsStandIn 33 = false by kernel_rfl)

/-- THE CARD -/
theorem card : Rows.ParseTagsCardSaid :=
  Claim7.holds_tied_plain_at .later [] _ _ _ _ said (fun _ h => by cases h) (by kernel_rfl) (fun _ h => by cases h) parseTags_row_tie rfl ⟨rfl, rfl⟩ (by kernel_rfl) rfl plain (by kernel_rfl)
end Go.Proofs.YtilcfpaimhiofaaGreatDoor.parseTags
