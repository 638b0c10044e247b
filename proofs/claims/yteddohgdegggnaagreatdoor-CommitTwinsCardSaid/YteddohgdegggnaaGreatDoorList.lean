/- What is shown here, as far as 'used_is': contracts of the program's functions, and the plain laws that they lean on; conditions: each theorem's own hypotheses. -/
import Derived.Test.YteddohgdegggnaaGreatDoorRead
namespace Go.Proofs.YteddohgdegggnaaGreatDoor
open Go.RowKit Go.HR
open Go.Proofs

/-- The one cell that has just been laid, as what is appended. -/
theorem src_one {P : Program} {tx e' : TypeId} (hk : P.underlying tx = some (.slice e')) (w : World) (v : Value) (h1 : v.oneCell' = true) (T : TypeId) {g : Nat} (hg : g = w.heap.size) :
    Src P 1 tx (.slice (some ⟨g, 0, none⟩) 1 1) 1 [v] (w.alloc (.cells #[v] T)) := by
  subst hg
  refine Src.ofSlice _ hk _ 1 1 [v] rfl (fun j u hu => ?_) (fun u hu => by simp at hu; subst hu; exact h1)
  cases j with
  | zero => simp at hu; subst hu; simp [Addr.add, World.cell?_alloc_new]
  | succ j => simp at hu

def strs (l : List (List UInt8)) : List Value := l.map fun s => .string ⟨s.toArray⟩

def NewStrs (w : World) (l : List (List UInt8)) (e : Ending) (w' : World) : Prop := ∃ v, e = .returned v ∧ NewRow 9 1 w l.length (strs l) v w'

theorem take_succ_names {fs : List FV} {k : Nat} {f : FV} (h : fs[k]? = some f) : strs ((fs.map (·.g.name)).take (k + 1)) = strs ((fs.map (·.g.name)).take k) ++ [.string ⟨f.g.name.toArray⟩] := by
  have hlt := (List.getElem?_eq_some_iff.1 h).1
  rw [← List.map_take, List.take_succ_eq_append_getElem hlt, (List.getElem?_eq_some_iff.1 h).2, ← List.map_take]
  simp [strs]

set_option maxHeartbeats 1000000 in
theorem list_is {b : Nat} {S : St} {lv : Value} {fs : List FV} (w : World) (h : StoreIs w b S lv fs) :
    Calls Tryz.prog 9 #[.pointer (some ⟨b, 0, none⟩)] w (NewStrs w (S.l.map (·.name))) := by
  obtain ⟨ops, _, c0, c1, c2, c3, c4⟩ := h.cell
  obtain ⟨i0, hi, hz0, hz1, hz2⟩ := info_parts Tryz.infoS
  have hnames : S.l.map (·.name) = fs.map (·.g.name) := by rw [h.files, List.map_map]; rfl
  rw [hnames]
  have hcnt := h.count
  rcases h.lv with ⟨rfl, rfl⟩ | ⟨g, cap, rfl, hcap, _⟩
  · clear hcnt hnames
    go_enter Tryz.func9, Tryz.ntmps9
    go_wp2_with fail
    go_loop [3, 13] (fun v i => v = .slice none 0 0 ∧ i = .int .i64 0) (fun _ _ => 0)
    case atStart => exact ⟨rfl, rfl⟩
    case round =>
      obtain ⟨rfl, rfl⟩ := hrel
      go_wp2
      go_ret
      exact ⟨_, rfl, NewRow.none _ _ (Only.refl _ _)⟩
  · have hrow := h.rowAt rfl
    have HROW : Hid (RowAt w g fs) := hrow
    clear hrow hnames
    go_enter Tryz.func9, Tryz.ntmps9
    go_wp2_with fail
    go_loopw [3, 13] (fun v i wr => ∃ k : Nat, i = .int .i64 k ∧ k ≤ fs.length ∧ wr.ownsRow 0 9 1 v k (strs ((fs.map (·.g.name)).take k)) ∧ Ext w wr ∧ Hid (∀ j, v.ownBlock = some j → w.heap.size ≤ j)) (fun _ i _ => fs.length - (intOf i).toNat)
    case atStart => exact ⟨0, rfl, Nat.zero_le _, World.ownsRow_nil _ _ _ _, Only.refl _ _, fun j hj => by simp [Value.ownBlock] at hj⟩
    case round =>
      obtain ⟨k, rfl, hk, hown, hx, hfr⟩ := hrel
      by_cases hlt : k < fs.length
      · obtain ⟨f, hf⟩ : ∃ f, fs[k]? = some f := ⟨_, List.getElem?_eq_getElem hlt⟩
        obtain ⟨d0, d1, d2⟩ := HROW.out.ext hx _ f hf
        have HF : Hid (fs[k]? = some f) := hf
        obtain ⟨pa, pc, hpv, _, _⟩ := owns_shape (h.bytes f (List.mem_of_getElem? hf))
        rw [hpv] at d1
        clear hf hpv
        go_wp2_with (at_builtin; refine wpList_append_any _ rfl _ _ 30 30 rfl 9 i0 (.string ByteArray.empty) 1 16 Tryz.underlying30 hi hz0 hz1 hz2 rfl _ k _ rfl (owns_ext hown (((Only.refl _ _).alloc _).alloc _)) _ rfl 1 _ (src_one Tryz.underlying30 _ _ rfl _ (by simp)) (by simp only [maxLen]; omega) (by omega) ?_)
        intro v' w1 happ _
        go_wp2
        go_roundw
        case rel => exact ⟨k + 1, by go_num, hlt, by rw [take_succ_names HF.out]; exact happ.owns, (hx.thenExt (((Only.refl _ _).alloc _).alloc _)).trans happ.only fun j hj e => by have := hfr j e; omega, fun j hj => by
          rcases happ.fresh j hj with h1 | h1
          · exact hfr j h1
          · have := hx.size; simp at h1; omega⟩
        case measure => simp [intOf]; omega
      · obtain rfl : k = fs.length := by omega
        have HL : Hid ((fs.map (·.g.name)).take fs.length = fs.map (·.g.name)) := by show _ = _; rw [List.take_of_length_le (by simp)]
        go_wp2
        go_ret
        rw [HL.out] at hown
        exact ⟨_, rfl, by simpa using hown, hx, hfr⟩

theorem used_succ {fs : List FV} {k : Nat} {f : FV} (h : fs[k]? = some f) : used ((fs.take (k + 1)).map (·.g)) = used ((fs.take k).map (·.g)) + f.g.p.length := by
  have hlt := (List.getElem?_eq_some_iff.1 h).1
  rw [List.take_succ_eq_append_getElem hlt, (List.getElem?_eq_some_iff.1 h).2]
  simp [used]

theorem used_take (fs : List FV) (k : Nat) : used ((fs.take k).map (·.g)) ≤ used (fs.map (·.g)) := by
  have h : fs = fs.take k ++ fs.drop k := (List.take_append_drop k fs).symm
  have : used (fs.map (·.g)) = used ((fs.take k).map (·.g)) + used ((fs.drop k).map (·.g)) := by
    conv => lhs; rw [h]
    simp only [used, List.map_append, List.sum_append]
  omega

set_option maxHeartbeats 1000000 in
theorem used_is {b : Nat} {S : St} {lv : Value} {fs : List FV} (w : World) (h : StoreIs w b S lv fs) :
    Calls Tryz.prog 79 #[.pointer (some ⟨b, 0, none⟩)] w fun e w' => e = .returned (.int .i64 (used S.l)) ∧ Ext w w' := by
  obtain ⟨ops, _, c0, c1, c2, c3, c4⟩ := h.cell
  have hcnt := h.count
  have hmax : used (fs.map (·.g)) ≤ 16777216 := by
    have h1 := h.wf.room
    have h2 := h.wf.roomMax
    rw [h.files] at h1
    omega
  have HU : Hid (used S.l = used (fs.map (·.g))) := by show _ = _; rw [h.files]
  rcases h.lv with ⟨rfl, rfl⟩ | ⟨g, cap, rfl, hcap, _⟩
  · have HU2 : Hid (used S.l = 0) := HU
    clear hcnt hmax HU
    go_enter Tryz.func79, Tryz.ntmps79
    go_wp2_with fail
    go_loop [3, 13] (fun v i => v = .int .i64 0 ∧ i = .int .i64 0) (fun _ _ => 0)
    case atStart => exact ⟨rfl, rfl⟩
    case round =>
      obtain ⟨rfl, rfl⟩ := hrel
      go_wp2
      go_ret
      rw [HU2.out]
      exact ⟨rfl, Only.refl _ _⟩
  · have hrow := h.rowAt rfl
    have HROW : Hid (RowAt w g fs) := hrow
    clear hrow
    go_enter Tryz.func79, Tryz.ntmps79
    go_wp2_with fail
    go_loopw [3, 13] (fun v i wr => ∃ k u : Nat, i = .int .i64 k ∧ v = .int .i64 u ∧ k ≤ fs.length ∧ Hid (u = used ((fs.take k).map (·.g))) ∧ Ext w wr) (fun _ i _ => fs.length - (intOf i).toNat)
    case atStart => exact ⟨0, 0, rfl, rfl, Nat.zero_le _, rfl, Only.refl _ _⟩
    case round =>
      obtain ⟨k, u, rfl, rfl, hk, hu, hx⟩ := hrel
      have hub : u ≤ 16777216 := by rw [hu.out]; exact Nat.le_trans (used_take fs k) hmax
      by_cases hlt : k < fs.length
      · obtain ⟨f, hf⟩ : ∃ f, fs[k]? = some f := ⟨_, List.getElem?_eq_getElem hlt⟩
        obtain ⟨d0, d1, d2⟩ := HROW.out.ext hx _ f hf
        obtain ⟨pa, pc, hpv, _, _⟩ := owns_shape (h.bytes f (List.mem_of_getElem? hf))
        rw [hpv] at d1
        have hsu := used_succ hf
        have hst := used_take fs (k + 1)
        have HF : Hid (used ((fs.take (k + 1)).map (·.g)) = u + f.g.p.length) := by rw [hu.out]; exact hsu
        have hpl : u + f.g.p.length ≤ 16777216 := by rw [← HF.out]; omega
        clear hf hpv hsu hst
        go_wp2
        go_roundw
        case rel => exact ⟨k + 1, u + f.g.p.length, by go_num, by go_num, hlt, HF.out.symm, hx.thenExt ((Only.refl _ _).alloc _)⟩
        case measure => simp [intOf]; omega
      · obtain rfl : k = fs.length := by omega
        have HL : Hid (used S.l = u) := by show _ = _; rw [HU.out, hu.out, List.take_length]
        go_wp2
        go_ret
        rw [HL.out]
        exact ⟨rfl, hx⟩

end Go.Proofs.YteddohgdegggnaaGreatDoor
