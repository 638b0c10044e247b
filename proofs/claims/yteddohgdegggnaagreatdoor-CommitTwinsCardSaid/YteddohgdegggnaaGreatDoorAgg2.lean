/- What is shown here, as far as 'readvalue_is': contracts of the program's functions, and the plain laws that they lean on; conditions: each theorem's own hypotheses. -/
import Derived.Test.YteddohgdegggnaaGreatDoorAgg
namespace Go.HR
/-- What is told, as it is read again. -/
def AggG.canon (a : AggG) : AggG := ⟨a.count, HR.canon a.sum, a.over, HR.canon a.min, HR.canon a.max⟩
end Go.HR
namespace Go.Proofs.YteddohgdegggnaaGreatDoor
open Go.RowKit Go.HR
open Go.Proofs

theorem run_store_float {P : Program} {w : World} {a : Addr} {m : Mode} (k : FloatKind) (b : Nat) : (store a (.float k b) m).run P w = stored P w a (.float k b) m := run_store P w a _ m rfl
attribute [local go_sem] run_store_float

/-- What a function leaves that reads on. -/
def RdrPost (w : World) (rb gb : Nat) (v : Value) (l : List UInt8) (e : Ending) (w' : World) : Prop := e = .returned v ∧ RdrAt w' rb gb l ∧ Only (fun k => k = rb) w w'

set_option maxRecDepth 100000 in
set_option maxHeartbeats 2000000 in
theorem readvalue_is (rb gb : Nat) (a : AggG) (l : List UInt8) (w : World) (h : RdrAt w rb gb (aggB a ++ l)) (ha : a.OK) (hc : a.count ≤ 1099511627776) :
    Calls Tryz.prog 49 #[.pointer (some ⟨rb, 0, none⟩)] w (RdrPost w rb gb (.agg a.canon.cells.toArray) l) := by
  obtain ⟨q1, q2, q3, q4⟩ := ha
  unfold aggB at h
  simp only [List.append_assoc] at h
  have H : Hid (RdrAt w rb gb (leb a.count ++ (leb (HR.canon a.sum) ++ (leb a.over.toNat ++ (leb (HR.canon a.min) ++ (leb (HR.canon a.max) ++ l)))))) := h
  have hov : a.over.toNat ≤ 1 := by cases a.over <;> decide
  obtain ⟨_, hrh, _⟩ := h.ex
  have hrw := lt_of_block hrh
  have HGL : Hid (gb < w.heap.size) := h.lt
  clear h hrh
  go_enter Tryz.func49, Tryz.ntmps49
  go_wp2_with fail
  refine (ruint_is rb gb a.count 1099511627776 _ _ (H.out.ext ((Only.refl _ _).alloc _)) q1 hc (by omega)).mono ?_
  rintro e w1 ⟨rfl, hr1, ho1⟩
  go_wp2_with fail
  refine (rnumber_is rb gb a.sum _ w1 hr1 q2).mono ?_
  rintro e w2 ⟨rfl, hr2, ho2⟩
  go_wp2_with fail
  obtain ⟨bx, hbx⟩ : ∃ bx, bx = w2.heap.size := ⟨_, rfl⟩
  obtain ⟨w3, hw3⟩ : ∃ w3, w3 = w2.alloc (.cells #[.int .u64 a.count, .float .f64 (HR.canon a.sum), .bool false, .float .f64 0, .float .f64 0] 57) := ⟨_, rfl⟩
  have hx3 : Ext w2 w3 := hw3 ▸ (Only.refl _ _).alloc _
  have hb3 : w3.heap[bx]? = some (.cells #[.int .u64 a.count, .float .f64 (HR.canon a.sum), .bool false, .float .f64 0, .float .f64 0] 57 (0, 0)) := by rw [hw3, hbx]; exact Go.heap_alloc_new w2 _
  rw [← hw3, ← hbx]
  have hs1 := ho1.size
  have hs2 := ho2.size
  have hsz : (w.alloc (.cells #[.int .u64 0, .float .f64 0, .bool false, .float .f64 0, .float .f64 0] 57)).heap.size = w.heap.size + 1 := by simp
  have hbig : w.heap.size + 1 ≤ bx := by omega
  have hrbx : rb ≠ bx := by omega
  have hbres : bx ≠ w.heap.size := by omega
  have hres : w3.heap[w.heap.size]? = some (.cells #[.int .u64 0, .float .f64 0, .bool false, .float .f64 0, .float .f64 0] 57 (0, 0)) := hx3.heap (ho2.heap (ho1.heap (Go.heap_alloc_new w _) (by omega)) (by omega))
  have hO : Hid (Only (fun k => k = rb) w w3) := ((((Only.refl _ _).alloc _).trans ho1 fun _ _ h => h).trans ho2 fun _ _ h => h).thenExt hx3
  have hr3 := hr2.ext hx3
  have HRES : Hid (w3.heap[w.heap.size]? = some (.cells #[.int .u64 0, .float .f64 0, .bool false, .float .f64 0, .float .f64 0] 57 (0, 0))) := hres
  have HB3 : Hid (w3.heap[bx]? = some (.cells #[.int .u64 a.count, .float .f64 (HR.canon a.sum), .bool false, .float .f64 0, .float .f64 0] 57 (0, 0))) := hb3
  clear hw3 hx3 hbx hr2 hr1 ho1 ho2 hs1 hs2 hres hb3 hsz
  refine (ruint_is rb gb a.over.toNat 1 _ w3 hr3 (by omega) hov (by omega)).mono ?_
  rintro e w4 ⟨rfl, hr4, ho4⟩
  have hb4 := ho4.heap HB3.out (fun e => hrbx e.symm)
  have f42 : w4.cell? ⟨bx, 2, none⟩ = some (.bool false) := by simp [World.cell?, hb4]
  have z42 : w4.frozen? ⟨bx, 2, none⟩ = false := by simp [World.frozen?, hb4]
  have HB4 : Hid (w4.heap[bx]? = some (.cells #[.int .u64 a.count, .float .f64 (HR.canon a.sum), .bool false, .float .f64 0, .float .f64 0] 57 (0, 0))) := hb4
  have hovb : (((a.over.toNat : Nat) : Int) == 1) = a.over := by cases a.over <;> rfl
  have hgbx : gb ≠ bx := fun e => by have := hr4.lt; have := HGL.out; omega
  clear hb4 hr3
  go_wp2_with fail
  obtain ⟨w5, hw5⟩ : ∃ w5, w5 = w4.setCell ⟨bx, 2, none⟩ (.bool a.over) := ⟨_, rfl⟩
  have ho5 : Only (fun k => k = bx) w4 w5 := hw5 ▸ only_set (Only.refl _ _) _ _
  have hb5 : w5.heap[bx]? = some (.cells #[.int .u64 a.count, .float .f64 (HR.canon a.sum), .bool a.over, .float .f64 0, .float .f64 0] 57 (0, 0)) := by rw [hw5]; exact heap_setCell_same w4 bx 2 _ _ _ HB4.out
  rw [← hw5]
  have hr5 := hr4.keep ho5 hrbx hgbx
  have HB5 : Hid (w5.heap[bx]? = some (.cells #[.int .u64 a.count, .float .f64 (HR.canon a.sum), .bool a.over, .float .f64 0, .float .f64 0] 57 (0, 0))) := hb5
  have hO5 : Only (fun k => k = rb ∨ k = bx) w3 w5 := (ho4.mono fun _ _ e => .inl e).trans (ho5.mono fun _ _ e => .inr e) fun _ _ h => h
  have HO5 : Hid (Only (fun k => k = rb ∨ k = bx) w3 w5) := hO5
  clear hw5 ho5 hb5 hr4 hO5 f42 z42 hovb
  refine (rnumber_is rb gb a.min _ w5 hr5 q3).mono ?_
  rintro e w6 ⟨rfl, hr6, ho6⟩
  go_wp2_with fail
  refine (rnumber_is rb gb a.max _ w6 hr6 q4).mono ?_
  rintro e w7 ⟨rfl, hr7, ho7⟩
  have hb7 := ho7.heap (ho6.heap HB5.out fun e => hrbx e.symm) fun e => hrbx e.symm
  have f73 : w7.cell? ⟨bx, 3, none⟩ = some (.float .f64 0) := by simp [World.cell?, hb7]
  have z73 : w7.frozen? ⟨bx, 3, none⟩ = false := by simp [World.frozen?, hb7]
  have f74 : w7.cell? ⟨bx, 4, none⟩ = some (.float .f64 0) := by simp [World.cell?, hb7]
  have z74 : w7.frozen? ⟨bx, 4, none⟩ = false := by simp [World.frozen?, hb7]
  have f70 : w7.cell? ⟨bx, 0, none⟩ = some (.int .u64 a.count) := by simp [World.cell?, hb7]
  have f71 : w7.cell? ⟨bx, 1, none⟩ = some (.float .f64 (HR.canon a.sum)) := by simp [World.cell?, hb7]
  have f72 : w7.cell? ⟨bx, 2, none⟩ = some (.bool a.over) := by simp [World.cell?, hb7]
  have hO7 : Only (fun k => k = rb ∨ k = bx) w3 w7 := (HO5.out.trans (ho6.mono fun _ _ e => .inl e) fun _ _ h => h).trans (ho7.mono fun _ _ e => .inl e) fun _ _ h => h
  have hrw' : ¬ (w.heap.size = rb ∨ w.heap.size = bx) := by omega
  have hres7 := hO7.heap HRES.out hrw'
  have g0 : w7.cell? ⟨w.heap.size, 0, none⟩ = some (.int .u64 0) := by simp [World.cell?, hres7]
  have g1 : w7.cell? ⟨w.heap.size, 1, none⟩ = some (.float .f64 0) := by simp [World.cell?, hres7]
  have g2 : w7.cell? ⟨w.heap.size, 2, none⟩ = some (.bool false) := by simp [World.cell?, hres7]
  have g3 : w7.cell? ⟨w.heap.size, 3, none⟩ = some (.float .f64 0) := by simp [World.cell?, hres7]
  have g4 : w7.cell? ⟨w.heap.size, 4, none⟩ = some (.float .f64 0) := by simp [World.cell?, hres7]
  have u0 : w7.frozen? ⟨w.heap.size, 0, none⟩ = false := by simp [World.frozen?, hres7]
  have u1 : w7.frozen? ⟨w.heap.size, 1, none⟩ = false := by simp [World.frozen?, hres7]
  have u2 : w7.frozen? ⟨w.heap.size, 2, none⟩ = false := by simp [World.frozen?, hres7]
  have u3 : w7.frozen? ⟨w.heap.size, 3, none⟩ = false := by simp [World.frozen?, hres7]
  have u4 : w7.frozen? ⟨w.heap.size, 4, none⟩ = false := by simp [World.frozen?, hres7]
  have HO7 : Hid (Only (fun k => k = rb ∨ k = bx) w3 w7) := hO7
  clear hb7 hO7 hr6 hr5 ho6 ho7
  have HR7 : Hid (w7.heap[w.heap.size]? = some (.cells #[.int .u64 0, .float .f64 0, .bool false, .float .f64 0, .float .f64 0] 57 (0, 0))) := hres7
  have HQ7 : Hid (RdrAt w7 rb gb l) := hr7
  clear hres7 hr7
  go_wp2_with fail
  (try simp only [Exit.inBlock, Exit.then])
  have hw8 : ((w7.setCell ⟨bx, 3, none⟩ (.float .f64 (HR.canon a.min))).setCell ⟨bx, 4, none⟩ (.float .f64 (HR.canon a.max))).heap[w.heap.size]? = _ := (heap_setCell_other _ _ _ _ (fun e => hbres e.symm)).trans ((heap_setCell_other _ _ _ _ (fun e => hbres e.symm)).trans HR7.out)
  have hw9 := heap_setCell_same _ w.heap.size 4 _ _ (.float .f64 (HR.canon a.max)) (heap_setCell_same _ w.heap.size 3 _ _ (.float .f64 (HR.canon a.min)) (heap_setCell_same _ w.heap.size 2 _ _ (.bool a.over) (heap_setCell_same _ w.heap.size 1 _ _ (.float .f64 (HR.canon a.sum)) (heap_setCell_same _ w.heap.size 0 _ _ (.int .u64 a.count) hw8))))
  have hoE : Only (fun k => k = bx ∨ k = w.heap.size) w7 _ := ((((((only_set (Only.refl (fun k => k = bx) w7) 3 (.float .f64 (HR.canon a.min)) |> fun h => only_set h 4 (.float .f64 (HR.canon a.max))).mono fun _ _ e => Or.inl e : Only (fun k => k = bx ∨ k = w.heap.size) w7 _)).trans ((only_set (only_set (only_set (only_set (only_set (Only.refl (fun k => k = w.heap.size) _) 0 (.int .u64 a.count)) 1 (.float .f64 (HR.canon a.sum))) 2 (.bool a.over)) 3 (.float .f64 (HR.canon a.min))) 4 (.float .f64 (HR.canon a.max))).mono fun _ _ e => Or.inr e) fun _ _ h => h)))
  generalize hwE : World.setCell _ _ _ = wE at hw9 hoE ⊢
  have g0 : wE.cell? ⟨w.heap.size, 0, none⟩ = some (.int .u64 a.count) := by unfold World.cell?; rw [hw9]; rfl
  have g1 : wE.cell? ⟨w.heap.size, 1, none⟩ = some (.float .f64 (HR.canon a.sum)) := by unfold World.cell?; rw [hw9]; rfl
  have g2 : wE.cell? ⟨w.heap.size, 2, none⟩ = some (.bool a.over) := by unfold World.cell?; rw [hw9]; rfl
  have g3 : wE.cell? ⟨w.heap.size, 3, none⟩ = some (.float .f64 (HR.canon a.min)) := by unfold World.cell?; rw [hw9]; rfl
  have g4 : wE.cell? ⟨w.heap.size, 4, none⟩ = some (.float .f64 (HR.canon a.max)) := by unfold World.cell?; rw [hw9]; rfl
  refine bodyPost_ret (v := .agg a.canon.cells.toArray) (by simp [results, Tryz.results49, go_sem, g0, g1, g2, g3, g4, AggG.canon, AggG.cells]) rfl ⟨rfl, HQ7.out.keep hoE (by omega) (by have := HGL.out; omega), ?_⟩
  have h1 : Only (fun k => k = rb ∨ k = bx) w w7 := (hO.out.mono fun _ _ e => .inl e).trans HO7.out fun _ _ h => h
  have h2 : Only (fun k => k = rb ∨ k = bx ∨ k = w.heap.size) w wE := (h1.mono fun _ _ e => e.imp id .inl).trans (hoE.mono fun _ _ e => .inr e) fun _ _ h => h
  exact h2.mono fun k hk e => by omega

end Go.Proofs.YteddohgdegggnaaGreatDoor
