/- What is shown here, as far as 'post_ext': contracts of the program's functions, and the plain laws that they lean on; conditions: each theorem's own hypotheses. -/
import Derived.Test.YteddohgdegggnaaGreatDoorMiss
import Derived.Test.YteddohgdegggnaaGreatDoorCards
import Derived.Test.YteddohgdegggnaaGreatDoorTie
import Derived.ProofKit
import Derived.OpenShut
import Derived.Lay
import Derived.MakeChecks
import Derived.Deep.DeepHandedRow
import Derived.Deep.DeepWitnessRowRef
import Derived.Lib.LaidTab
import Derived.LaidSub
namespace Go.Proofs.YteddohgdegggnaaGreatDoor
open Go.ChangeShapes Go.WideShapes Go.ChangeAt Go.RowKit Go.HR
open Go.Proofs

theorem own : ownKnob Tryz.prog.godebug = none := by kernel_rfl
theorem gTab : Tryz.prog.globalNamed "headrace/page.table" = some 0 := by kernel_rfl
theorem gTabT : (Tryz.prog.globals[0]?).map (·.type) = some 134 := by kernel_rfl
theorem gPow : (Tryz.prog.globals[4]?).map (·.type) = some 151 := by kernel_rfl
theorem gSyn : Tryz.prog.globalNamed "strconv.ErrSyntax" = some 2 := by kernel_rfl
theorem gSynT : (Tryz.prog.globals[2]?).map (·.type) = some 90 := by kernel_rfl
theorem cells16 : Tryz.prog.cellsOf 134 = 16 := by kernel_rfl
theorem cells20 : Tryz.prog.cellsOf 151 = 20 := by kernel_rfl
theorem cellsU32 : Tryz.prog.cellsOf 38 = 1 := by kernel_rfl
theorem cellsU64 : Tryz.prog.cellsOf 27 = 1 := by kernel_rfl

/-- The list of the rows. -/
def laidL : List (String × DataW Unit) := Rows.commitMissingRow.laid
theorem laid_plain (W : World) (h : laidMetH Tryz.prog laidL W) : laidMet Tryz.prog laidL W := by
  rwa [MakeChecks.laidMetH_plain _ _ _ (by kernel_rfl)] at h

theorem tab_of {W : World} (h : laidMet Tryz.prog laidL W) : TableAt W 0 := by
  have h1 : laidMet Tryz.prog [("headrace/page.table", Lib.tabData .u32 (crcTable.map fun n : Nat => (n : Int)))] W := laidMet.filter (fun x => x.1 == "headrace/page.table") h
  have h2 := Lib.tabIs_of_head (rest := []) gTab gTabT Tryz.underlying134 Tryz.underlying38 cellsU32 cells16 h1
  intro i t hi
  have hl := (List.getElem?_eq_some_iff.1 hi).1
  have := h2.cell gTab i (by rw [List.length_map]; exact hl)
  rw [this, List.getD_eq_getElem?_getD, List.getElem?_map, hi]
  rfl
theorem pow_of {W : World} (h : laidMet Tryz.prog laidL W) : Lib.TabIs Tryz.prog W "internal/strconv.uint64pow10" .u64 Lib.pow10Tab := by
  have h1 : laidMet Tryz.prog [("internal/strconv.uint64pow10", Lib.tabData .u64 Lib.pow10Tab)] W := laidMet.filter (fun x => x.1 == "internal/strconv.uint64pow10") h
  exact Lib.tabIs_of_head (rest := []) Tryz.pow10_at gPow Tryz.underlying151 Tryz.underlying27 cellsU64 cells20 h1
theorem syn_of {W : World} (h : laidMet Tryz.prog laidL W) : ∃ tp p, W.cell? ⟨2, 0, none⟩ = some (.iface tp p) := by
  have h1 : laidMet Tryz.prog [("strconv.ErrSyntax", Rows.laid_strconv_ErrSyntax)] W := laidMet.filter (fun x => x.1 == "strconv.ErrSyntax") h
  obtain ⟨ps, ⟨g, t, cs, fuel, p, q, hg, hty, hvar, hd, _, _⟩, _⟩ := h1
  obtain rfl := Option.some.inj (gSyn.symm.trans hg)
  obtain rfl := Option.some.inj (gSynT.symm.trans hty)
  obtain ⟨_, u, v, hcs, _⟩ := Go.iface_of_trod Tryz.underlying90 hd
  refine ⟨u, v, ?_⟩
  rw [World.var?_cell hg hvar 0, ← Array.getElem?_toList, hcs]
  rfl
theorem base_of {W : World} (h : W.ShapedOpen Tryz.prog) : 8 ≤ W.heap.size := by
  obtain ⟨z, t, hz⟩ : ∃ z t, (((begin Tryz.prog (fun _ _ => 0) default).world.heap[7]?).bind Obj.row?) = some (z, t) := by
    have : ((((begin Tryz.prog (fun _ _ => 0) default).world.heap[7]?).bind Obj.row?)).isSome = true := by kernel_rfl
    obtain ⟨⟨z, t⟩, hx⟩ := Option.isSome_iff_exists.1 this
    exact ⟨z, t, hx⟩
  obtain ⟨cs, hc, _⟩ := h.1 7 z t (by have : Tryz.prog.globals.size = 8 := by kernel_rfl
                                      omega) hz
  have := lt_of_block hc
  omega
theorem gl_of {W : World} (hL : laidMetH Tryz.prog laidL W) (hS : W.ShapedOpen Tryz.prog) : Gl W :=
  let h := laid_plain W hL
  ⟨tab_of h, Tryz.laysM145.s1_3 W hS, syn_of h, pow_of h, base_of hS⟩

/-- What stood there reads as it did, new blocks beside: the law's word. -/
theorem post_ext {H : Type} {enc : TypeId × Value → H} {P : Program} {f : Func} {s : ChangeSpec} {apart fresh handsOn again : Bool} {W W' : World} {args : Array Value} {v : Value} {ds gs : List (DataW H)} {before : List MemPlace}
    (hW : DataW.Whole enc P f.params.toList s.vars apart W args.toList ds gs before) (hx : Ext W W') (hnv : s.vars = [])
    (hres : ∀ (b : Nat) (sp : Nat → Bool) (hd : Bool), DataW.TrodAll enc P W' b sp hd f.resultTypes.toList (v.resultList f.resultTypes.size) (s.fn H (ds ++ gs)).results [])
    (hargs : ∀ sp : Nat → Bool, (∀ p ∈ before, sp p.block = true) → DataW.TrodAll enc P W' 0 sp true f.params.toList args.toList (s.fn H (ds ++ gs)).args before)
    (hvs : (s.fn H (ds ++ gs)).vars = [])
    (hok : ∀ (j : Nat) (t : TypeId) (r : Value), f.resultTypes[j]? = some t → (v.resultList f.resultTypes.size)[j]? = some r → Value.okWide P W' .any 0 t r) :
    s.post enc P f apart fresh handsOn again W args v W' := by
  have hlt := hW.lt
  have hbel : Below W.heap.size W W' := ⟨hx.os, hx.tape, hx.output, hx.size, fun k hk => hx.block k hk id⟩
  have hin : ∀ p ∈ before, decide (p.block < W.heap.size) = true := fun p hp => decide_eq_true (hlt p hp)
  have hv : ∀ sp : Nat → Bool, DataW.TrodVars enc P W' sp s.vars (s.fn H (ds ++ gs)).vars [] := fun sp => by rw [hnv, hvs]; rfl
  refine ⟨ds, gs, before, [], before, [], hW, hres _ _ _, hargs _ hin, hv _, hbel.frame _, fun _ => ?_⟩
  have hparts := hW
  obtain ⟨_, _, _, _, _, hz, hn⟩ := hparts
  refine ⟨hok, _, _, ([] ++ before) ++ [], ⟨[] ++ before, [], trodAll_append (hargs _ (fun _ _ => rfl)) (hres _ _ _), hv _, rfl, fun b off hp => ?_, fun ha => ?_⟩, fun p hp _ => ?_⟩
  · have hb : b < W.heap.size := hlt (.cell b off) (by simpa using hp)
    have h0 := hz b off (by simpa using hp)
    unfold World.frozen? at h0 ⊢
    rw [hx.block b hb id]
    exact h0
  · simpa using hn ha
  · simpa using hp

end Go.Proofs.YteddohgdegggnaaGreatDoor
