/- What is shown here, as far as 'try_is': contracts of the program's functions, and the plain laws that they lean on; conditions: each theorem's own hypotheses. -/
import Derived.Test.YteddohgdegggnaaGreatDoorAgg2
import Derived.Defers
import Derived.Recover
import Derived.Laws.Pointers
namespace Go.Proofs.YteddohgdegggnaaGreatDoor
open Go.RowKit Go.HR
open Go.Proofs

set_option maxRecDepth 100000 in
/-- The deferred closure where nothing was given up. -/
theorem try1_idle (p : Addr) (w : World) :
    CallsD Tryz.prog 55 #[.pointer (some p)] .returning w fun e u' w' => e = .returned (.tuple #[]) ∧ u' = .returning ∧ w' = w := by
  refine callsD_of_wpS Tryz.func55 rfl fun c₀ cs hu => ?_
  apply wpS_seq
  apply wpS_region
  simp [wpOpsS, go_sem, recoverD, hu, Tryz.ntmps55, Exit.thenS]
  apply wpS_seq
  apply wpS_region
  simp [wpOpsS, go_sem, Exit.thenS]
  refine wpS_cond (t := false) (by simp [Act.eval]) ?_
  simp only [Bool.false_eq_true, if_false]
  refine wpS_of_wp (wp_skip ?_)
  cases c₀
  simp_all [bodyPostS, results, Tryz.results55]

theorem try_only {F : Nat → Prop} {w w1 w2 : World} (hx : Ext w w1) (ho : Only (fun k => F k ∨ k = w.heap.size + 1) w1 w2) (v : Value) : Only F w (w2.setCell ⟨w.heap.size, 0, none⟩ v) := by
  have h1 : Only (fun k => F k ∨ k = w.heap.size + 1 ∨ k = w.heap.size) w w2 := (hx.mono fun _ _ h => h.elim).trans (ho.mono fun _ _ e => e.imp id .inl) fun _ _ h => h
  have h2 : Only (fun k => F k ∨ k = w.heap.size + 1 ∨ k = w.heap.size) w2 (w2.setCell ⟨w.heap.size, 0, none⟩ v) := (only_set (Only.refl (fun k => k = w.heap.size) _) 0 v).mono fun _ _ e => .inr (.inr e)
  exact (h1.trans h2 fun _ _ h => h).mono fun k hk e => e.resolve_right (by omega)

set_option maxRecDepth 100000 in
set_option maxHeartbeats 1000000 in
theorem try_is (pv : Value) (gb : Nat) (l : List UInt8) (K : FuncId) (caps : Array Value) (w : World) (F : Nat → Prop) (R : World → Prop) (hp : Rd w pv l.length (by8 l)) (hgb : ∀ k, pv.ownBlock = some k → k = gb) (hgl : gb < w.heap.size)
    (hC : (K = 44 ∧ ∃ c, caps = #[c]) ∨ (K = 33 ∧ ∃ c, caps = #[c]))
    (hK : ∀ w1, Ext w w1 → w.heap.size + 2 ≤ w1.heap.size → RdrAt w1 (w.heap.size + 1) gb l → Calls Tryz.prog K (#[.pointer (some ⟨w.heap.size + 1, 0, none⟩)] ++ caps) w1 fun e w2 => e = .returned (.tuple #[]) ∧ RdrAt w2 (w.heap.size + 1) gb [] ∧ R w2 ∧ Only (fun k => F k ∨ k = w.heap.size + 1) w1 w2)
    (hF : ∀ k, F k → k < w.heap.size) :
    Calls Tryz.prog 32 #[pv, .func (.func K) #[] caps] w fun e w' => e = .returned (.bool true) ∧ Only F w w' ∧ ∃ w2, R w2 ∧ Only (fun k => k = w.heap.size) w2 w' := by
  obtain ⟨va, vc, rfl, _, _⟩ := hp.shape
  have hmf : ∀ (fn : Fn) (first cap : Array Value) (w : World), (Instr.makeFunc fn first cap).run Tryz.prog w = .ok (.func fn first cap) w := fun _ _ _ _ => rfl
  obtain ⟨w1, hw1⟩ : ∃ w1, w1 = (w.alloc (.cells #[.bool false] 4)).alloc (.cells #[.slice va l.length vc] 114) := ⟨_, rfl⟩
  have hx : Ext w w1 := hw1 ▸ ((Only.refl _ _).alloc _).alloc _
  have hsz : w1.heap.size = w.heap.size + 2 := by rw [hw1]; simp
  have hbox : w1.heap[w.heap.size + 1]? = some (.cells #[.slice va l.length vc] 114 (0, 0)) := by
    have := Go.heap_alloc_new (w.alloc (.cells #[.bool false] 4)) (.cells #[.slice va l.length vc] 114 (0, 0))
    rw [show (w.alloc (.cells #[.bool false] 4)).heap.size = w.heap.size + 1 from by simp] at this
    rw [hw1]; exact this
  have hok : w1.heap[w.heap.size]? = some (.cells #[.bool false] 4 (0, 0)) := by
    have := Only.heap ((Only.refl (fun _ => False) (w.alloc (.cells #[.bool false] 4))).alloc (.cells #[.slice va l.length vc] 114)) (Go.heap_alloc_new w (.cells #[.bool false] 4 (0, 0))) id
    rw [hw1]; exact this
  have hrd : RdrAt w1 (w.heap.size + 1) gb l := ⟨⟨_, hbox, hp.ext hx, hgb⟩, by omega, by omega⟩
  have hk := hK w1 hx (by omega) hrd
  clear hK hrd
  go_enter_defers Tryz.func32, Tryz.ntmps32
  rcases hC with ⟨rfl, c, rfl⟩ | ⟨rfl, c, rfl⟩
  all_goals
    simp only [List.append_toArray, List.cons_append, List.nil_append] at hk
    go_wp2_with fail
    rw [← hw1]
    refine hk.mono ?_
    rintro e w2 ⟨rfl, hr2, hR, ho2⟩
    obtain ⟨pv2, e1, e2, _⟩ := hr2.ex
    obtain ⟨a2, c2, rfl, _, _⟩ := e2.shape
    have t0 : w2.cell? ⟨w.heap.size + 1, 0, none⟩ = some (.slice a2 0 c2) := by simp [World.cell?, e1]
    have hok2 := ho2.heap hok (fun h => h.elim (fun h => Nat.lt_irrefl _ (hF _ h)) (by omega))
    have t1 : w2.cell? ⟨w.heap.size, 0, none⟩ = some (.bool false) := by simp [World.cell?, hok2]
    have t2 : w2.frozen? ⟨w.heap.size, 0, none⟩ = false := by simp [World.frozen?, hok2]
    have HX : Hid (Ext w w1) := hx
    have HO2 : Hid (Only (fun k => F k ∨ k = w.heap.size + 1) w1 w2) := ho2
    clear e1 e2 hok2 hok hbox hr2 hk ho2 hx hw1
    go_wp2_with fail
    refine leaves_cons (f := 55) (args := #[.pointer (some ⟨w.heap.size, 0, none⟩)]) (by simp) (by simp [go_sem]) ?_
    refine (try1_idle ⟨w.heap.size, 0, none⟩ _).mono ?_
    rintro e u' w'' ⟨rfl, rfl, rfl⟩
    have t3 : (w2.setCell ⟨w.heap.size, 0, none⟩ (.bool true)).cell? ⟨w.heap.size, 0, none⟩ = some (.bool true) := by simp [World.cell?_setCell_same, t1]
    have hfin := try_only HX.out HO2.out (.bool true)
    have hset : Only (fun k => k = w.heap.size) w2 (w2.setCell ⟨w.heap.size, 0, none⟩ (.bool true)) := only_set (Only.refl _ _) _ _
    simp [Leaves, settle, results, Tryz.results32, go_sem, t3]
    exact ⟨hfin, w2, hR, hset⟩

end Go.Proofs.YteddohgdegggnaaGreatDoor
