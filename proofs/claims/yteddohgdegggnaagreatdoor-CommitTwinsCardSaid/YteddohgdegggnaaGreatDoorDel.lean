/- What is shown here, as far as 'delete_row'': contracts of the program's functions, and the plain laws that they lean on; conditions: each theorem's own hypotheses. -/
import Derived.Test.YteddohgdegggnaaGreatDoorList
import Derived.Test.YteddohgdegggnaaGreatDoorRow
import Derived.Deep.RegionHeld3
namespace Go.Proofs.YteddohgdegggnaaGreatDoor
open Go.RowKit Go.HR
open Go.Proofs

theorem Tryz.infoF : (Tryz.prog.info? 69).map (fun i => (i.zero, i.size, i.bytes)) = some (some (.agg #[.string ByteArray.empty, .slice none 0 0, .int .i64 0]), 3, 48) := by kernel_rfl

theorem FV.cells_length (f : FV) : f.cells.length = 3 := rfl

theorem flat_take (fs : List FV) (k : Nat) : (fs.flatMap FV.cells).take (k * 3) = (fs.take k).flatMap FV.cells := by
  induction fs generalizing k with
  | nil => simp
  | cons f fs ih =>
    cases k with
    | zero => simp
    | succ k =>
      simp only [List.flatMap_cons, List.take_succ_cons]
      rw [List.take_append, List.take_of_length_le (by simp [FV.cells_length]; omega), FV.cells_length, show (k + 1) * 3 - 3 = k * 3 from by omega, ih]

theorem flat_drop (fs : List FV) (k : Nat) : (fs.flatMap FV.cells).drop (k * 3) = (fs.drop k).flatMap FV.cells := by
  induction fs generalizing k with
  | nil => simp
  | cons f fs ih =>
    cases k with
    | zero => simp
    | succ k =>
      simp only [List.flatMap_cons, List.drop_succ_cons]
      rw [List.drop_append, List.drop_of_length_le (by simp [FV.cells_length]; omega), FV.cells_length, show (k + 1) * 3 - 3 = k * 3 from by omega, ih]
      rfl

theorem flat_one {w : World} {e n : Nat} {fs : List FV} (h : ∀ f ∈ fs, w.ownsRow 0 e 1 f.pv (n + f.g.p.length - n) (by8 f.g.p)) : ∀ u ∈ fs.flatMap FV.cells, u.oneCell' = true := by
  intro u hu
  obtain ⟨f, hf, hu⟩ := List.mem_flatMap.1 hu
  obtain ⟨a, c, hv, _, _⟩ := owns_shape (h f hf)
  simp only [FV.cells, List.mem_cons, List.not_mem_nil, or_false] at hu
  rcases hu with rfl | rfl | rfl
  · rfl
  · rw [hv]; rfl
  · rfl

theorem erase_flat (fs : List FV) (i : Nat) : (fs.eraseIdx i).flatMap FV.cells = ((fs.take i).flatMap FV.cells) ++ ((fs.drop (i + 1)).flatMap FV.cells) := by
  rw [List.eraseIdx_eq_take_drop_succ, List.flatMap_append]

set_option maxRecDepth 100000 in
set_option maxHeartbeats 2000000 in
theorem delete_row' (g cap i k : Nat) (fs : List FV) (w : World) (hlen : i + 1 + k = fs.length) (hown : w.ownsRow 0 69 3 (.slice (some ⟨g, 0, none⟩) (i + 1 + k) cap) (i + 1 + k) (fs.flatMap FV.cells)) (hn : i + 1 + k ≤ 500) (hone : ∀ u ∈ fs.flatMap FV.cells, u.oneCell' = true) :
    Calls Tryz.prog 23 #[.slice (some ⟨g, 0, none⟩) (i + 1 + k) cap, .int .i64 i, .int .i64 (i + 1)] w
      fun e w' => e = .returned (.slice (some ⟨g, 0, none⟩) (i + k) cap) ∧ w'.ownsRow 0 69 3 (.slice (some ⟨g, 0, none⟩) (i + k) cap) (i + k) ((fs.eraseIdx i).flatMap FV.cells) ∧ Only (fun k => k = g) w w' := by
  obtain ⟨i0, hi0, hz0, hz1, hz2⟩ := info_parts Tryz.infoF
  rcases hown.2 with ⟨h1, _⟩ | ⟨g', cap', cur, h1, _, hg, hnc, hcm, hcs, htake⟩
  · cases h1
  cases h1
  obtain ⟨L, rfl⟩ : ∃ L : List Value, cur = L.toArray := ⟨cur.toList, by simp⟩
  have hLl : L.length = cap * 3 := by simpa using hcs
  have htk : L.take ((i + 1 + k) * 3) = fs.flatMap FV.cells := by simpa using htake
  have hcap : i + 1 + k ≤ cap := hnc
  have HG : Hid (w.heap[g]? = some (.cells L.toArray 69 (0, 0))) := hg
  have HCM : Hid (cap ≤ maxLen) := hcm
  have hcellL : ∀ j u, L[j]? = some u → w.cell? ⟨g, j, none⟩ = some u := fun j u hu => by simp [World.cell?, hg, hu]
  -- the elements behind i
  obtain ⟨N, hN⟩ : ∃ N, N = (fs.drop (i + 1)).flatMap FV.cells := ⟨_, rfl⟩
  have hnl : N.length = k * 3 := by rw [hN, flat_length]; simp; omega
  have hnews : ∀ j u, N[j]? = some u → w.cell? ⟨g, (i + 1) * 3 + j, none⟩ = some u := fun j u hu => by
    apply hcellL
    rw [hN, ← flat_drop, ← htk, List.getElem?_drop, List.getElem?_take] at hu
    split at hu
    · exact hu
    · cases hu
  have hone2 : ∀ u ∈ N, u.oneCell' = true := fun u hu => hone u (by
    rw [hN, ← flat_drop] at hu; exact List.mem_of_mem_drop hu)
  have HSRC : Hid (Src Tryz.prog 3 62 (.slice (if cap = i + 1 then some ⟨g, 0, none⟩ else some ⟨g, (i + 1) * 3, none⟩) k (cap - (i + 1))) k N w.drew) := by
    show Src _ _ _ _ _ _ _
    by_cases hc : cap = i + 1
    · rw [if_pos hc]
      have h0 : k = 0 := by omega
      subst h0
      have hnil : N = [] := List.eq_nil_of_length_eq_zero (by rw [hnl])
      rw [hnil]
      exact Src.ofSlice _ Tryz.underlying62 _ 0 _ [] rfl (fun j u hu => by simp at hu) (fun u hu => by cases hu)
    · rw [if_neg hc]
      exact Src.ofSlice _ Tryz.underlying62 _ _ _ _ hnl (fun j u hu => by rw [Addr.add_lit]; exact hnews j u hu) hone2
  have hfit : i * 3 + N.length ≤ L.length := by rw [hnl, hLl]; omega
  have HF : Hid (i * 3 + N.length ≤ L.length) := hfit
  have hsl := spl_length L (i * 3) N hfit
  have HF2 : Hid ((i + k) * 3 + [Value.string ⟨#[]⟩, Value.slice none 0 0, Value.int .i64 0].length ≤ (spl L (i * 3) N).length) := by
    show _ ≤ _; rw [hsl, hLl]; simp; omega
  have hfin : (spl (spl L (i * 3) N) ((i + k) * 3) [Value.string ⟨#[]⟩, Value.slice none 0 0, Value.int .i64 0]).length = cap * 3 := by
    rw [spl_length _ _ _ HF2.out, hsl, hLl]
  have HL : Hid ((spl (spl L (i * 3) N) ((i + k) * 3) [Value.string ⟨#[]⟩, Value.slice none 0 0, Value.int .i64 0]).length = cap * 3) := hfin
  have htake2 : (spl (spl L (i * 3) N) ((i + k) * 3) [Value.string ⟨#[]⟩, Value.slice none 0 0, Value.int .i64 0]).take ((i + k) * 3) = (fs.eraseIdx i).flatMap FV.cells := by
    have e1 : L.take (i * 3) = (fs.take i).flatMap FV.cells := by
      rw [← flat_take, ← htk, List.take_take, Nat.min_eq_left (by omega)]
    have e2 : (L.take (i * 3)).length = i * 3 := by rw [List.length_take]; omega
    have e3 : (spl L (i * 3) N).take ((i + k) * 3) = L.take (i * 3) ++ N := by
      rw [spl, ← List.append_assoc, List.take_left' (by rw [List.length_append, e2, hnl]; omega)]
    rw [spl, List.take_left' (by rw [List.length_take, hsl, hLl]; omega), e3, e1, hN, erase_flat]
  have HT : Hid ((spl (spl L (i * 3) N) ((i + k) * 3) [Value.string ⟨#[]⟩, Value.slice none 0 0, Value.int .i64 0]).take ((i + k) * 3) = (fs.eraseIdx i).flatMap FV.cells) := htake2
  have hel : ((fs.eraseIdx i).flatMap FV.cells).length = (i + k) * 3 := by rw [flat_length, List.length_eraseIdx]; split <;> omega
  have HE : Hid (((fs.eraseIdx i).flatMap FV.cells).length = (i + k) * 3) := hel
  clear hg hcs htake hown hcm hLl htk hcellL hnl hnews hone2 hone hfit hnc hsl hfin htake2 hel hN hlen
  have hb1 : i ≤ cap := by omega
  have hb2 : i + 1 ≤ cap := by omega
  have hb3 : i + k ≤ cap := by omega
  have hx1 : (0 : Int) ≤ (i : Int) + 1 := by omega
  have hx2 : (i : Int) + 1 ≤ (i : Int) + 1 + (k : Int) := by omega
  have hne : ¬ cap = i + k := by omega
  go_enter Tryz.func23, Tryz.ntmps23
  go_wp2_with fail
  go_region_held3 (fun _ => True) (exact trivial) (refine step_builtin2 w.drew rfl .append _ _ 62 62 rfl _ _ rfl rfl _ _ (builtin_append w.drew (run_append_row w.drew 62 62 _ 69 i0 3 Tryz.underlying62 hi0 hz1 g i cap L _ HG.out _ k _ HSRC.out (by omega) HF.out)) ?_)
  go_wp2_with (refine wpList_builtin1 _ rfl .clear _ _ rfl _ rfl _ _ (builtin_clear _ (run_clear_row _ 62 _ 69 _ _ Tryz.underlying62 Tryz.zeroValue69 rfl (by simp [Value.oneCell']) g ((i + k) * 3) _ _ (by omega) _ _ (setRow_heap _ _ _ _ _ _ HG.out) HF2.out)) ?_)
  all_goals go_ret
  all_goals try (have hh : cap = i + 1 := (by assumption); subst hh)
  all_goals exact ⟨rfl, ⟨HE.out, .inr ⟨g, _, _, rfl, Nat.zero_le _, setRow_heap _ _ _ _ _ _ (setRow_heap _ _ _ _ _ _ HG.out), hb3, HCM.out, by simpa using HL.out, by simpa using HT.out⟩⟩, ((Only.refl _ _).drew.trans (only_setRow g _) fun _ _ h => h).trans (only_setRow g _) fun _ _ h => h⟩

end Go.Proofs.YteddohgdegggnaaGreatDoor
