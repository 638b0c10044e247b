/- What is shown here, as far as 'sync1_is': contracts of the program's functions, and the plain laws that they lean on; conditions: each theorem's own hypotheses. -/
import Derived.Test.YteddohgdegggnaaGreatDoorDelc
import Derived.BigRegion
namespace Go.Proofs.YteddohgdegggnaaGreatDoor
open Go.RowKit Go.HR
open Go.Proofs

theorem flat_set (fs : List FV) (i j : Nat) (f f' : FV) (u : Value) (hi : fs[i]? = some f) (hj : j < 3) (hc : f'.cells = f.cells.set j u) : (fs.flatMap FV.cells).set (i * 3 + j) u = (fs.set i f').flatMap FV.cells := by
  induction fs generalizing i with
  | nil => simp at hi
  | cons h fs ih =>
    cases i with
    | zero =>
      simp at hi; subst hi
      simp only [List.flatMap_cons, Nat.zero_mul, Nat.zero_add, List.set_cons_zero]
      rw [List.set_append_left _ _ (by simp [FV.cells_length]; omega), hc]
    | succ i =>
      simp at hi
      simp only [List.flatMap_cons, List.set_cons_succ]
      rw [List.set_append_right _ _ (by simp [FV.cells_length]; omega), FV.cells_length, show (i + 1) * 3 + j - 3 = i * 3 + j from by omega, ih i hi]

theorem map_set (fs : List FV) (i : Nat) (f : FV) : (fs.set i f).map (·.g) = (fs.map (·.g)).set i f.g := by simp

theorem own_filter_set (fs : List FV) (i : Nat) (f f' : FV) (hi : fs[i]? = some f) (hv : f'.pv.ownBlock = f.pv.ownBlock) : (fs.set i f').filterMap (·.pv.ownBlock) = fs.filterMap (·.pv.ownBlock) := by
  induction fs generalizing i with
  | nil => simp at hi
  | cons h fs ih =>
    cases i with
    | zero => simp at hi; subst hi; simp [List.filterMap_cons, hv]
    | succ i => simp at hi; simp [List.filterMap_cons, ih i hi]

theorem used_set (l : List FileG) (i : Nat) (f f' : FileG) (hi : l[i]? = some f) : used (l.set i f') + f.p.length = used l + f'.p.length := by
  induction l generalizing i with
  | nil => simp at hi
  | cons h l ih =>
    cases i with
    | zero => simp at hi; subst hi; simp [used]; omega
    | succ i => simp at hi; have := ih i hi; simp [used] at *; omega

theorem sorted_set (l : List FileG) (i : Nat) (f f' : FileG) (hi : l[i]? = some f) (hn : f'.name = f.name) (hs : Sorted l) : Sorted (l.set i f') := by
  have h : (l.set i f').map (·.name) = l.map (·.name) := by
    rw [List.map_set, hn]
    apply List.ext_getElem?
    intro k
    rw [List.getElem?_set]
    split
    · rename_i e; subst e
      obtain ⟨hlt, rfl⟩ := List.getElem?_eq_some_iff.1 hi
      simp [hlt]
    · rfl
  have hp : (l.map (·.name)).Pairwise (· < ·) := List.pairwise_map.2 hs
  rw [← h] at hp
  exact List.pairwise_map.1 hp

/-- A file of a store is another now: its name as it was. -/
theorem wf_set {S : St} (h : S.WF) (i : Nat) (f f' : FileG) (hi : S.l[i]? = some f) (hn : f'.name = f.name) (hr : used (S.l.set i f') ≤ S.room) (hsure : f'.sure ≤ f'.p.length) : ({ S with l := S.l.set i f' } : St).WF where
  sorted := sorted_set _ i f f' hi hn h.sorted
  room := hr
  roomMax := h.roomMax
  count := by simpa using h.count
  sure := fun g hg => by
    rcases List.mem_or_eq_of_mem_set hg with h1 | h1
    · exact h.sure g h1
    · subst h1; exact hsure
  names := fun g hg => by
    rcases List.mem_or_eq_of_mem_set hg with h1 | h1
    · exact h.names g h1
    · subst h1; rw [hn]; exact h.names f (List.mem_of_getElem? hi)

theorem StoreIs.sync {w : World} {b i : Nat} {S : St} {fs : List FV} {f : FV} {g n cap : Nat} (h : StoreIs w b S (.slice (some ⟨g, 0, none⟩) n cap) fs) (hi : fs[i]? = some f) :
    StoreIs (w.setCell ⟨g, i * 3 + 2, none⟩ (.int .i64 f.g.p.length)) b { S with l := S.l.set i f.g.sync } (.slice (some ⟨g, 0, none⟩) n cap) (fs.set i ⟨f.g.sync, f.pv⟩) ∧
    foot b (.slice (some ⟨g, 0, none⟩) n cap) (fs.set i ⟨f.g.sync, f.pv⟩) = foot b (.slice (some ⟨g, 0, none⟩) n cap) fs ∧
    Only (fun k => k ∈ foot b (.slice (some ⟨g, 0, none⟩) n cap) fs) w (w.setCell ⟨g, i * 3 + 2, none⟩ (.int .i64 f.g.p.length)) := by
  have hap := h.apart
  have hbg : b ≠ g := by
    intro e; subst e
    simp only [foot, List.nodup_cons, List.mem_append, Option.mem_toList, Value.ownBlock, not_or] at hap
    exact hap.1.1 trivial
  have hfoot : foot b (.slice (some ⟨g, 0, none⟩) n cap) (fs.set i ⟨f.g.sync, f.pv⟩) = foot b (.slice (some ⟨g, 0, none⟩) n cap) fs := by
    unfold foot
    rw [own_filter_set fs i f ⟨f.g.sync, f.pv⟩ hi rfl]
  have ho : Only (fun k => k = g) w (w.setCell ⟨g, i * 3 + 2, none⟩ (.int .i64 f.g.p.length)) := only_set (Only.refl _ _) _ _
  have hmem := List.mem_of_getElem? hi
  have hSi : S.l[i]? = some f.g := by rw [h.files, List.getElem?_map, hi]; rfl
  refine ⟨⟨?_, ?_, ?_, ?_, hfoot ▸ hap, ?_⟩, hfoot, ho.mono fun k _ e => by subst e; exact foot_mem_g⟩
  · obtain ⟨ops, hh, _⟩ := h.cell
    exact ⟨ops, ho.heap hh hbg⟩
  · have hn : n = fs.length := by
      rcases h.row.2 with ⟨h1, _⟩ | ⟨_, _, _, h1, _⟩
      · cases h1
      · cases h1; rfl
    subst hn
    rw [List.length_set, ← flat_set fs i 2 f ⟨f.g.sync, f.pv⟩ (.int .i64 f.g.p.length) hi (by omega) rfl]
    exact (h.row.stored _ _).1
  · show S.l.set i f.g.sync = _
    rw [map_set, h.files]
  · intro f' hf'
    have hg : ∀ x ∈ fs, (w.setCell ⟨g, i * 3 + 2, none⟩ (.int .i64 f.g.p.length)).ownsRow 0 5 1 x.pv x.g.p.length (by8 x.g.p) := fun x hx => owns_keep (h.bytes x hx) ho fun k hk e => by
      subst e
      simp only [foot, List.nodup_cons, List.nodup_append, List.mem_append, Option.mem_toList, Value.ownBlock, not_or, List.mem_filterMap] at hap
      exact hap.2.2.2 k rfl k ⟨x, hx, hk⟩ rfl
    rcases List.mem_or_eq_of_mem_set hf' with h1 | h1
    · exact hg f' h1
    · subst h1; exact hg f hmem
  · refine wf_set h.wf i f.g f.g.sync hSi rfl ?_ (Nat.le_refl _)
    have := used_set S.l i f.g f.g.sync hSi
    have h1 := h.wf.room
    have e : f.g.sync.p.length = f.g.p.length := rfl
    rw [e] at this
    omega

set_option maxRecDepth 100000 in
set_option maxHeartbeats 2000000 in
theorem sync1_is {b c : Nat} {S : St} {lv : Value} {fs : List FV} (i : Nat) (f : FV) (w : World) (h : StoreIs w b S lv fs) (hi : fs[i]? = some f) (hc : w.cell? ⟨c, 0, none⟩ = some (.pointer (some ⟨b, 0, none⟩))) (hcf : c ∉ foot b lv fs) :
    Calls Tryz.prog 80 #[.int .i64 i, .pointer (some ⟨c, 0, none⟩)] w fun e w' => e = .returned (.tuple #[]) ∧ Did w b (foot b lv fs) { S with l := S.l.set i f.g.sync } w' := by
  have hlt := (List.getElem?_eq_some_iff.1 hi).1
  rcases h.lv with ⟨rfl, rfl⟩ | ⟨g, cap, rfl, hcap, hcm⟩
  · simp at hlt
  obtain ⟨ops, _, c0, c1, c2, c3, c4⟩ := h.cell
  obtain ⟨r0, r1, r2⟩ := h.rowAt rfl i f hi
  obtain ⟨pa, pc, hpv, _, _⟩ := owns_shape (h.bytes f (List.mem_of_getElem? hi))
  have HPV : Hid (f.pv = .slice pa f.g.p.length pc) := hpv
  rw [hpv] at r1
  have f0 : w.frozen? ⟨g, i * 3 + 2, none⟩ = false := h.row.frozenAt _
  have hcnt := h.count
  have H : Hid (StoreIs w b S (.slice (some ⟨g, 0, none⟩) fs.length cap) fs) := h
  have HI : Hid (fs[i]? = some f) := hi
  clear h hi hpv
  go_enter Tryz.func80, Tryz.ntmps80
  go_region
  go_wp2
  go_end0
  obtain ⟨hs, hft, ho⟩ := H.out.sync HI.out
  exact ⟨rfl, _, ⟨_, _, hs.keep (F := fun _ => False) ((Only.refl _ _).drew) (fun _ _ => id), rfl⟩, ho.drew, fun k hk => .inl (by rw [hft] at hk; exact hk)⟩

end Go.Proofs.YteddohgdegggnaaGreatDoor
