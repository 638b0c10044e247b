/-
  'headracelaw18.CommitTwins' returns true for every input, and the input reads as it did.
  Conditions: none beyond the statement's own (what the listed package variables hold, tied to the program's text).
-/
import Derived.Test.YteddohgdegggnaaGreatDoorGlob
import Derived.Carry
import Derived.Test.YteddohgdegggnaaGreatDoorTwo
import Derived.Test.YteddohgdegggnaaGreatDoorTwin
namespace Go.Proofs.YteddohgdegggnaaGreatDoor
open Go.ChangeShapes Go.WideShapes Go.ChangeAt Go.RowKit Go.HR
open Go.Proofs

theorem laidOut : laidOutB Tryz.prog = true := by kernel_rfl

set_option maxRecDepth 100000 in
theorem twin_contract (H : Type) (enc : TypeId × Value → H) (W : World) (base : Nat) (args : Array Value) (ds gs : List (DataW H)) (before : List MemPlace)
    (hval : ∀ (j : Nat) t v, Tryz.f4.params[j]? = some t → args[j]? = some v → Value.okWide Tryz.prog W .any base t v)
    (hW : DataW.Whole enc Tryz.prog Tryz.f4.params.toList Rows.commitTwinsSpec.vars false W args.toList ds gs before) (hL : laidMetH Tryz.prog Rows.commitTwinsRow.laid W) (hS : W.ShapedOpen Tryz.prog) :
    Calls Tryz.prog 4 args W fun e W' => ∃ v, e = .returned v ∧ Rows.commitTwinsSpec.post enc Tryz.prog Tryz.f4 false true false false W args v W' := by
  have hW' := hW
  obtain ⟨p, q, hA0, hV, rfl, hfz, hnd⟩ := hW
  have hA : DataW.TrodAll enc Tryz.prog W 0 (fun _ => true) true Tryz.f4.params.toList args.toList ds p := hA0
  rw [Tryz.params4] at hA hval
  obtain ⟨v0, vs0, d0, ds0, p0, q0, hargs, rfl, rfl, h0, r0⟩ := trodAll_cons hA
  obtain ⟨v1, vs1, d1, ds1, p1, q1, rfl, rfl, rfl, h1, r1⟩ := trodAll_cons r0
  obtain ⟨rfl, rfl, rfl⟩ := trodAll_nil r1
  obtain rfl : args = #[v0, v1] := by cases args; simp_all
  obtain ⟨rfl, rfl⟩ := trodVars_none hV
  obtain ⟨f0, g0⟩ := id h0
  obtain ⟨a0, len, cap, rfl⟩ := okWide_slice Tryz.underlying37 (hval 0 37 v0 rfl rfl)
  obtain ⟨acts, hacts, hin⟩ := acts_open (v := .slice a0 len cap) g0
  obtain ⟨n1, rfl, rfl, rfl, hn1⟩ := open_int Tryz.underlying38 (hval 1 38 v1 rfl rfl) h1
  obtain ⟨m1, m2⟩ := bounds_u32 hn1
  obtain ⟨m, rfl⟩ : ∃ m : Nat, n1 = m := ⟨n1.toNat, by omega⟩
  simp only [List.append_nil] at hW'
  refine (twins_is (.slice a0 len cap) acts m W (gl_of hL hS) hacts hin (by omega)).mono fun e W' ⟨he, hg⟩ => ?_
  subst he
  refine ⟨_, rfl, post_ext hW' hg rfl (fun _ _ _ => trodAll_cons_mk (shut_bool Tryz.underlying4 _) trodAll_mk0) (fun sp hsp => ?_) rfl
    (ok_one (by kernel_rfl) rfl (okWide_bool_mk Tryz.underlying4 _))⟩
  have hbel : Below W.heap.size W W' := ⟨hg.os, hg.tape, hg.output, hg.size, fun k hk => hg.block k hk id⟩
  have hlt := hW'.lt
  have h37 : DataW.Trod enc Tryz.prog W' 0 sp true 37 (.slice a0 len cap) d0 p0 := Go.WideElems.Trod_stays laidOut (by kernel_rfl) (of_decide_eq_true (by kernel_rfl)) h0 (fun x hx => hbel.same (hlt x hx)) hsp
  have hall := trodAll_cons_mk h37 (trodAll_cons_mk (shut_int Tryz.underlying38 hn1) trodAll_mk0)
  simp only [List.append_nil] at hall
  exact hall

theorem twin_reads (os : Os) {H : Type} (enc : TypeId × Value → H) : ∃ places, DataW.whole enc Tryz.prog ((World.laidAll Tryz.prog os Rows.commitTwinsRow.laid).forCall (fun _ _ => 0) ⟨#[], #[.slice none 0 0, .int .u32 0], []⟩).memory Tryz.f4.params.toList Rows.commitTwinsSpec.vars false #[Value.slice none 0 0, Value.int .u32 0].toList 8 = some ([.nil, .lit (.int .u32 0)], [], places) :=
  ⟨[], by kernel_rfl⟩
theorem twin_met (os : Os) : laidMet Tryz.prog Rows.commitTwinsRow.laid ((World.laidAll Tryz.prog os Rows.commitTwinsRow.laid).forCall (fun _ _ => 0) ⟨#[], #[.slice none 0 0, .int .u32 0], []⟩).memory :=
  laidMet_laidAll _ (by kernel_rfl) (by kernel_rfl)

set_option maxRecDepth 100000 in
theorem twin_lifted (os : Os) (started : os.Started) (H : Type) (enc : TypeId × Value → H) (F : Stop.Interp) :
    ReturnsInHanded {} Tryz.checked os 4 .any ((OpenSpec.ofChange Rows.commitTwinsSpec).preRow enc Tryz.prog Tryz.f4 Rows.commitTwinsRow.domain false Rows.commitTwinsRow.laid) (((OpenSpec.ofChange Rows.commitTwinsSpec).at F).post enc Tryz.prog Tryz.f4 false true false false) := by
  obtain ⟨places, hx⟩ := twin_reads os enc
  refine returnsInHanded_of_row (C := Tryz.checked) (s := OpenSpec.ofChange Rows.commitTwinsSpec) own started (by kernel_rfl) Tryz.func4
    (witness_row_atRef (enc := enc) (C := Tryz.checked) false (World.laidAll Tryz.prog os Rows.commitTwinsRow.laid) #[.slice none 0 0, .int .u32 0] (World.laidAll_os _ _ _) (by kernel_rfl) (by kernel_rfl) (by kernel_rfl)
      (OpenSpec.preRow_of_cond 8 hx (by kernel_rfl) (fun k hk => by cases hk) (by kernel_rfl) (twin_met os))) ?_
  intro W base args ds gs before hval hW _ _ _ hL hS _
  exact twin_contract H enc W base args ds gs before hval hW hL hS

theorem twin_said : Rows.CommitTwinsSaid :=
  OpenClaim.holds_of_cond 4 Tryz.f4 rfl rfl rfl rfl rfl rfl rfl ⟨rfl, rfl, rfl, rfl, rfl⟩ rfl rfl rfl rfl rfl (by kernel_rfl) Tryz.func4 (by kernel_rfl)
    (of_decide_eq_true (by kernel_rfl)) (by unfold Func.isWrapper; first | (rw [if_pos (by decide +kernel)]; kernel_rfl) | (rw [if_neg (by decide +kernel)]; exact ⟨rfl, rfl⟩))
    (fun os started H enc _ F => by rw [OpenClaim.pre_eq_preRow]; exact twin_lifted os started H enc F)

theorem twin_plain (f : FuncId) (fn : Func) (hf : Tryz.pinned.checked.prog.funcNamed "headrace/headracelaw18.CommitTwins" = some f) (hfn : Tryz.pinned.checked.prog.funcs[f]? = some fn) :
    true = Tryz.pinned.checked.prog.looks [] ∧ ∀ (j : Nat) t, fn.params[j]? = some t → Tryz.pinned.checked.prog.wantsStandIn t = false := by
  obtain rfl : f = 4 := Option.some.inj ((show Tryz.prog.funcNamed "headrace/headracelaw18.CommitTwins" = some 4 by kernel_rfl).symm.trans hf) |>.symm
  obtain rfl : fn = Tryz.f4 := (Option.some.inj (Tryz.func4.symm.trans hfn)).symm
  refine ⟨by kernel_rfl, fun j t ht => ?_⟩
  rw [Tryz.params4] at ht
  have hm : t = 37 ∨ t = 38 := by simpa using Array.mem_of_getElem? ht
  rcases hm with rfl | rfl
  · exact (show Tryz.prog.wantsStandIn 37 = false by kernel_rfl)
  · exact (show Tryz.prog.wantsStandIn 38 = false by kernel_rfl)

theorem commitTwins : Rows.CommitTwinsCardSaid :=
  Claim7.holds_tied_plain_at .later [] _ _ _ _ twin_said (fun _ h => by cases h) (by kernel_rfl) (fun _ h => by cases h) commitTwins_row_tie rfl ⟨rfl, rfl⟩ (by kernel_rfl) rfl twin_plain (by kernel_rfl)

end Go.Proofs.YteddohgdegggnaaGreatDoor
