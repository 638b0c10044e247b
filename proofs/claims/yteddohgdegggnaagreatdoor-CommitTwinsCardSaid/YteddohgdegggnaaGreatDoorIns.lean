/- What is shown here, as far as 'insert_any': contracts of the program's functions, and the plain laws that they lean on; conditions: each theorem's own hypotheses. -/
import Derived.Test.YteddohgdegggnaaGreatDoorDel
import Derived.Lib.Overlaps
namespace Go.Proofs.YteddohgdegggnaaGreatDoor
open Go.RowKit Go.HR
open Go.Proofs

theorem cells_one (f : FV) (h : ∃ a n c, f.pv = .slice a n c) : ∀ u ∈ f.cells, u.oneCell' = true := by
  obtain ⟨a, n, c, hv⟩ := h
  intro u hu
  simp only [FV.cells, List.mem_cons, List.not_mem_nil, or_false] at hu
  rcases hu with rfl | rfl | rfl
  · rfl
  · rw [hv]; rfl
  · rfl

/-- The new file's cells, where they were laid. -/
theorem lit_cells {w : World} {h : Nat} {f : FV} {T : TypeId} (hb : w.heap[h]? = some (.cells f.cells.toArray T (0, 0))) : ∀ j u, f.cells[j]? = some u → w.cell? ((⟨h, 0, none⟩ : Addr).add j) = some u := by
  intro j u hu
  rw [Addr.add_lit]
  simp [World.cell?, hb, hu]

/-- What Insert leaves. -/
structure Inserted (w : World) (lv : Value) (xs : List Value) (n : Nat) (e : Ending) (w' : World) : Prop where
  post : ∃ v', e = .returned v' ∧ w'.ownsRow 0 69 3 v' n xs ∧ Fresh w lv v'
  only : Only (fun k => lv.ownBlock = some k) w w'

set_option maxRecDepth 100000 in
set_option maxHeartbeats 2000000 in
theorem insert_end (ao : Option Addr) (n cap h : Nat) (f : FV) (xs : List Value) (w : World) (hown : w.ownsRow 0 69 3 (.slice ao n cap) n xs) (hn : n ≤ 500) (hb : w.heap[h]? = some (.cells f.cells.toArray 69 (0, 0)))
    (hf : ∃ a n c, f.pv = .slice a n c) :
    Calls Tryz.prog 67 #[.slice ao n cap, .int .i64 n, .slice (some ⟨h, 0, none⟩) 1 1] w (Inserted w (.slice ao n cap) (xs ++ f.cells) (n + 1)) := by
  obtain ⟨i0, hi0, hz0, hz1, hz2⟩ := info_parts Tryz.infoF
  obtain ⟨_, _, hsh, hnc, _⟩ := owns_shape hown
  cases hsh
  have HSRC : Hid (Src Tryz.prog 3 62 (.slice (some ⟨h, 0, none⟩) 1 1) 1 f.cells w) := Src.ofSlice _ Tryz.underlying62 _ 1 1 _ rfl (lit_cells hb) (cells_one f hf)
  clear hb hf
  go_enter Tryz.func67, Tryz.ntmps67
  go_wp2_with (at_builtin; refine wpList_append_any _ rfl _ _ 62 62 rfl 69 i0 _ 3 48 Tryz.underlying62 hi0 hz0 hz1 hz2 rfl _ n xs rfl hown _ rfl 1 _ HSRC.out (by simp only [maxLen]; omega) (by omega) ?_)
  all_goals intro v' w1 happ _
  all_goals go_wp2
  all_goals go_ret
  all_goals try (have hh : cap = n := (by assumption); subst hh)
  all_goals exact ⟨⟨v', rfl, happ.owns, happ.fresh⟩, happ.only⟩

theorem ins_owns {w' : World} {g C n m : Nat} {L xs : List Value} (hv : m = n) (hb : w'.heap[g]? = some (.cells L.toArray 69 (0, 0))) (hl : L.length = C * 3) (ht : L.take (n * 3) = xs) (hx : xs.length = n * 3) (hc : n ≤ C) (hm : C ≤ maxLen) :
    w'.ownsRow 0 69 3 (.slice (some ⟨g, 0, none⟩) m C) n xs := by
  subst hv
  exact ⟨hx, .inr ⟨g, C, _, rfl, Nat.zero_le _, hb, hc, hm, by simpa using hl, by simpa using ht⟩⟩

theorem zero3 (n : Nat) : (Builtin.zeroCells (Value.agg #[Value.string ⟨#[]⟩, Value.slice none 0 0, Value.int .i64 0]).cells n).size = n * 3 := by
  simp [Builtin.zeroCells, Value.cells]

set_option maxRecDepth 100000 in
set_option maxHeartbeats 2000000 in
theorem insert_grow (g h i k : Nat) (f : FV) (fs : List FV) (w : World) (hlen : i + 1 + k = fs.length) (hown : w.ownsRow 0 69 3 (.slice (some ⟨g, 0, none⟩) (i + 1 + k) (i + 1 + k)) (i + 1 + k) (fs.flatMap FV.cells)) (hn : i + 1 + k ≤ 500)
    (hb : w.heap[h]? = some (.cells f.cells.toArray 69 (0, 0))) (hf : ∃ a n c, f.pv = .slice a n c) (hone : ∀ u ∈ fs.flatMap FV.cells, u.oneCell' = true) :
    Calls Tryz.prog 67 #[.slice (some ⟨g, 0, none⟩) (i + 1 + k) (i + 1 + k), .int .i64 i, .slice (some ⟨h, 0, none⟩) 1 1] w
      (Inserted w (.slice (some ⟨g, 0, none⟩) (i + 1 + k) (i + 1 + k)) ((fs.take i ++ f :: fs.drop i).flatMap FV.cells) (i + 1 + k + 1)) := by
  obtain ⟨i0, hi0, hz0, hz1, hz2⟩ := info_parts Tryz.infoF
  have hcellg : ∀ j u, (fs.flatMap FV.cells)[j]? = some u → w.cell? ⟨g, j, none⟩ = some u := fun j u hu => by
    have := hown.cells (g := g) rfl j u hu
    rwa [Addr.add_lit, Nat.zero_add] at this
  obtain ⟨O, hO⟩ : ∃ O, O = (fs.take i).flatMap FV.cells := ⟨_, rfl⟩
  obtain ⟨N, hN⟩ : ∃ N, N = (fs.drop i).flatMap FV.cells := ⟨_, rfl⟩
  have hOl : O.length = i * 3 := by rw [hO, flat_length, List.length_take]; omega
  have hNl : N.length = (k + 1) * 3 := by rw [hN, flat_length, List.length_drop]; omega
  have holds : ∀ j v, O[j]? = some v → w.cell? ((⟨g, 0, none⟩ : Addr).add j) = some v := fun j v hv => by
    rw [Addr.add_lit, Nat.zero_add]
    apply hcellg
    rw [hO, ← flat_take, List.getElem?_take] at hv
    split at hv
    · exact hv
    · cases hv
  have hnews : ∀ j v, N[j]? = some v → w.cell? ⟨g, i * 3 + j, none⟩ = some v := fun j v hv => by
    apply hcellg
    rw [hN, ← flat_drop, List.getElem?_drop] at hv
    exact hv
  have hone2 : ∀ u ∈ N, u.oneCell' = true := fun u hu => hone u (by
    rw [hN, ← flat_drop] at hu; exact List.mem_of_mem_drop hu)
  have hgw : g < w.heap.size := (hown.lt g rfl).2
  have hhw : h < w.heap.size := lt_of_block hb
  have hlit := lit_cells hb
  have honeF := cells_one f hf
  have HO : Hid (∀ j v, O[j]? = some v → w.cell? ((⟨g, 0, none⟩ : Addr).add j) = some v) := holds
  have HN : Hid (∀ j v, N[j]? = some v → w.cell? ⟨g, i * 3 + j, none⟩ = some v) := hnews
  have HB : Hid (∀ j u, f.cells[j]? = some u → w.cell? ((⟨h, 0, none⟩ : Addr).add j) = some u) := hlit
  have H1 : Hid (∀ u ∈ N, u.oneCell' = true) := hone2
  have H2 : Hid (∀ u ∈ f.cells, u.oneCell' = true) := honeF
  have HOl : Hid (O.length = i * 3) := hOl
  have HNl : Hid (N.length = (k + 1) * 3) := hNl
  have HX : Hid ((fs.take i ++ f :: fs.drop i).flatMap FV.cells = O ++ (f.cells ++ N)) := by show _ = _; rw [hO, hN, List.flatMap_append, List.flatMap_cons]
  rw [HX.out]
  clear hb hf hcellg holds hnews hone2 hone hlit honeF hO hN hOl hNl hown hlen
  have hx1 : (i : Int) ≤ (i : Int) + 1 + (k : Int) := by omega
  have hx2 : ¬ (i + 1 + k = i) := by omega
  have hx3 : ((i : Int) == (i : Int) + 1 + (k : Int)) = false := by rw [beq_eq_false_iff_ne]; omega
  have hx4 : i ≤ i + 1 + k := by omega
  go_enter Tryz.func67, Tryz.ntmps67
  have hbytes : (i + (k + 2)) * i0.bytes ≤ 140737488355328 := by rw [hz2]; omega
  go_wp2_with (at_builtin; refine wpList_append_zeros_grow _ rfl _ _ 62 3 rfl 69 i0 _ 3 .i64 .i64 Tryz.underlying62 Tryz.underlying3 hi0 hz0 hz1 rfl (by decide) ⟨g, 0, none⟩ i (i + 1 + k) (k + 2) _ (by omega) rfl rfl O HOl.out HO.out (by omega) (by omega) (by omega) hbytes ?_)
  intro C L w1 hL1 hL2 hC hCm HG hext hsz
  have HG2 := setRow_heap w1 w.heap.size _ (spl L (i * 3) f.cells).toArray _ _ HG.out
  have hb1 : i ≤ C := by omega
  have hb2 : i ≤ i + (k + 2) := by omega
  have hm1 : Nat.min 1 (k + 2) = 1 := Nat.min_eq_left (by omega)
  have hm2 : Nat.min (i + 1 + k - i) (i + (k + 2) - (i + 1)) = k + 1 := by rw [show i + 1 + k - i = k + 1 from by omega, show i + (k + 2) - (i + 1) = k + 1 from by omega]; exact Nat.min_self _
  have HM1 : Hid (f.cells.length = Nat.min 1 (k + 2) * 3) := by show _ = _; rw [hm1]; rfl
  have HM2 : Hid (N.length = Nat.min (i + 1 + k - i) (i + (k + 2) - (i + 1)) * 3) := by show _ = _; rw [hm2]; exact HNl.out
  have hfl : f.cells.length = 3 := rfl
  have hs1 := spl_length L (i * 3) f.cells (by rw [hL2.out, hfl]; omega)
  have HS1 : Hid ((spl L (i * 3) f.cells).length = C * 3) := by show _ = _; rw [hs1]; exact hL2.out
  have HF1 : Hid (i * 3 + f.cells.length ≤ L.length) := by show _ ≤ _; rw [hL2.out, hfl]; omega
  have HF2 : Hid ((i + 1) * 3 + N.length ≤ (spl L (i * 3) f.cells).length) := by show _ ≤ _; rw [HS1.out, HNl.out]; omega
  have hs2 := spl_length (spl L (i * 3) f.cells) ((i + 1) * 3) N HF2.out
  have HS2 : Hid ((spl (spl L (i * 3) f.cells) ((i + 1) * 3) N).length = C * 3) := by show _ = _; rw [hs2]; exact HS1.out
  have HT2 : Hid ((spl (spl L (i * 3) f.cells) ((i + 1) * 3) N).take ((i + 1 + k + 1) * 3) = O ++ (f.cells ++ N)) := by
    show _ = _
    have e1 : (L.take (i * 3)).length = i * 3 := by rw [hL1.out]; exact HOl.out
    have e2 : (spl L (i * 3) f.cells).take ((i + 1) * 3) = L.take (i * 3) ++ f.cells := by
      rw [spl, ← List.append_assoc, List.take_left' (by rw [List.length_append, e1, hfl]; omega)]
    rw [spl, e2, hL1.out, ← List.append_assoc, List.take_left' (by rw [List.length_append, List.length_append, HOl.out, hfl, HNl.out]; omega), List.append_assoc]
  have HE : Hid ((O ++ (f.cells ++ N)).length = (i + 1 + k + 1) * 3) := by
    show _ = _; rw [List.length_append, List.length_append, HOl.out, hfl, HNl.out]; omega
  have HG2' : Hid ((w1.setRow w.heap.size (spl L (i * 3) f.cells).toArray).heap[w.heap.size]? = some (.cells (spl L (i * 3) f.cells).toArray 69 (0, 0))) := HG2
  clear hm1 hm2 hs1 hs2 HG2 hfl
  have hd1 : ¬ w.heap.size = g := by omega
  go_wp2_with (refine wpList_builtin2 _ rfl .copy _ _ 62 62 rfl _ _ rfl rfl _ _ (builtin_copy _ (run_copy_spl _ 62 62 _ 69 i0 3 Tryz.underlying62 hi0 hz1 w.heap.size (i * 3) _ _ L 69 HG.out _ _ _ f.cells HM1.out (fun ad had j v hv => by cases had; exact hext.cell (HB.out j v hv)) (fun h => by cases h) HF1.out H2.out)) ?_)
  have hy1 : (0 : Int) ≤ (i : Int) + 1 := by omega
  have hy2 : (i : Int) + 1 ≤ (i : Int) + ((k : Int) + 2) := by omega
  have hy3 : ¬ C = i + 1 := by omega
  have hy5 : (i : Int) + 1 ≤ ((i + (k + 2) : Nat) : Int) := by omega
  have hy6 : ((i : Int) + 1).toNat = i + 1 := by omega
  have hy7 : IntKind.i64.wrap ((i : Int) + 1) = (i : Int) + 1 := by rw [IntKind.wrap_i64]; omega
  have hy4 : i ≤ i + 1 + k := by omega
  have hsrc2 : ∀ ad, (some ⟨g, i * 3, none⟩ : Option Addr) = some ad → ∀ j v, N[j]? = some v → ((w1.setRow w.heap.size (spl L (i * 3) f.cells).toArray).drew).cell? (ad.add j) = some v := fun ad had j v hv => by
    cases had
    rw [Addr.add_lit, World.cell?_drew, cell_setRow_other _ _ _ _ (by show g ≠ w.heap.size; omega)]
    exact hext.cell (HN.out j v hv)
  have HSRC2 : Hid (∀ ad, (some ⟨g, i * 3, none⟩ : Option Addr) = some ad → ∀ j v, N[j]? = some v → ((w1.setRow w.heap.size (spl L (i * 3) f.cells).toArray).drew).cell? (ad.add j) = some v) := hsrc2
  clear hsrc2
  go_region_held3 (fun _ => True) (exact trivial) (refine step_builtin2 _ rfl .copy _ _ 62 62 rfl _ _ rfl rfl _ _ (builtin_copy _ (run_copy_spl ((w1.setRow w.heap.size (spl L (i * 3) f.cells).toArray).drew) 62 62 _ 69 i0 3 Tryz.underlying62 hi0 hz1 w.heap.size ((i + 1) * 3) (i + (k + 2) - (i + 1)) (C - (i + 1)) (spl L (i * 3) f.cells) 69 HG2'.out (some ⟨g, i * 3, none⟩) (i + 1 + k - i) (i + 1 + k - i) N HM2.out HSRC2.out (fun h => by cases h) HF2.out H1.out)) ?_)
  go_wp2_with fail
  go_ret
  exact ⟨⟨_, rfl, ins_owns (by omega) (setRow_heap _ _ _ _ _ _ HG2'.out) HS2.out HT2.out HE.out (by omega) hCm.out, fun j hj => .inr (by simp [Value.ownBlock] at hj; omega)⟩,
    Ext.to (((hext.trans (only_setRow w.heap.size _) fun j hj e => by omega).drew).trans (only_setRow w.heap.size _) fun j hj e => by omega)⟩

set_option maxRecDepth 100000 in
set_option maxHeartbeats 4000000 in
theorem insert_room (g h i k cap : Nat) (f : FV) (fs : List FV) (w : World) (hlen : i + 1 + k = fs.length) (hown : w.ownsRow 0 69 3 (.slice (some ⟨g, 0, none⟩) (i + 1 + k) cap) (i + 1 + k) (fs.flatMap FV.cells)) (hn : i + 1 + k ≤ 500)
    (hroom : i + 1 + k + 1 ≤ cap) (hb : w.heap[h]? = some (.cells f.cells.toArray 69 (0, 0))) (hgh : h ≠ g) (hf : ∃ a n c, f.pv = .slice a n c) (hone : ∀ u ∈ fs.flatMap FV.cells, u.oneCell' = true) :
    Calls Tryz.prog 67 #[.slice (some ⟨g, 0, none⟩) (i + 1 + k) cap, .int .i64 i, .slice (some ⟨h, 0, none⟩) 1 1] w
      (Inserted w (.slice (some ⟨g, 0, none⟩) (i + 1 + k) cap) ((fs.take i ++ f :: fs.drop i).flatMap FV.cells) (i + 1 + k + 1)) := by
  obtain ⟨i0, hi0, hz0, hz1, hz2⟩ := info_parts Tryz.infoF
  rcases hown.2 with ⟨h1, _⟩ | ⟨g', cap', cur, h1, _, hg, _, hcm, hcs, htake⟩
  · cases h1
  cases h1
  obtain ⟨L, rfl⟩ : ∃ L : List Value, cur = L.toArray := ⟨cur.toList, by simp⟩
  have hLl : L.length = cap * 3 := by simpa using hcs
  have htk : L.take ((i + 1 + k) * 3) = fs.flatMap FV.cells := by simpa using htake
  obtain ⟨O, hO⟩ : ∃ O, O = (fs.take i).flatMap FV.cells := ⟨_, rfl⟩
  obtain ⟨N, hN⟩ : ∃ N, N = (fs.drop i).flatMap FV.cells := ⟨_, rfl⟩
  have hOl : O.length = i * 3 := by rw [hO, flat_length, List.length_take]; omega
  have hNl : N.length = (k + 1) * 3 := by rw [hN, flat_length, List.length_drop]; omega
  have hOt : L.take (i * 3) = O := by rw [hO, ← flat_take, ← htk, List.take_take, Nat.min_eq_left (by omega)]
  have hnews : ∀ j v, N[j]? = some v → w.cell? ⟨g, i * 3 + j, none⟩ = some v := fun j v hv => by
    rw [hN, ← flat_drop, ← htk, List.getElem?_drop, List.getElem?_take] at hv
    split at hv
    · simp [World.cell?, hg, hv]
    · cases hv
  have hone2 : ∀ u ∈ N, u.oneCell' = true := fun u hu => hone u (by
    rw [hN, ← flat_drop] at hu; exact List.mem_of_mem_drop hu)
  have hlit := lit_cells hb
  have honeF := cells_one f hf
  have hfl : f.cells.length = 3 := rfl
  have hsz : ∀ w, (Go.sizeOf 69).run Tryz.prog w = .ok 3 w := Tryz.sizeOf69
  have hov : ∀ lb cb, (callFunc 82 #[.slice (some ⟨h, 0, none⟩) 1 1, .slice (some ⟨g, (i + 1) * 3, none⟩) lb cb]).run Tryz.prog w = .ok (.value (.bool false)) w := fun lb cb => by
    rw [run_callFunc_extern Tryz.func82 (by kernel_rfl) (by kernel_rfl) (by kernel_rfl) (e := Extern.SlicesOverlaps.overlaps #[62, 62] #[4]) (by kernel_rfl),
      Lib.run_overlaps_apart w 62 4 69 Tryz.underlying62 3 hsz ⟨h, 0, none⟩ ⟨g, (i + 1) * 3, none⟩ 1 1 lb cb hgh 69 69 3 (cap * 3) (by simp [World.shape?, hb, hfl]) (by simp [World.shape?, hg, hLl]) (by omega) (by simp [World.frozen?, hb]) (by simp [World.frozen?, hb])]
    rfl
  have HOV : Hid (∀ lb cb, (callFunc 82 #[.slice (some ⟨h, 0, none⟩) 1 1, .slice (some ⟨g, (i + 1) * 3, none⟩) lb cb]).run Tryz.prog w = .ok (.value (.bool false)) w) := hov
  have hm1 : Nat.min 1 (i + 1 + k + 1 - i) = 1 := Nat.min_eq_left (by omega)
  have hm2 : Nat.min (i + 1 + k + 1 - i) (i + 1 + k - i) = k + 1 := by rw [show i + 1 + k + 1 - i = k + 2 from by omega, show i + 1 + k - i = k + 1 from by omega]; exact Nat.min_eq_right (by omega)
  have HM1 : Hid (f.cells.length = Nat.min 1 (i + 1 + k + 1 - i) * 3) := by show _ = _; rw [hm1]; rfl
  have HM2 : Hid (N.length = Nat.min (i + 1 + k + 1 - i) (i + 1 + k - i) * 3) := by show _ = _; rw [hm2, hNl]
  have HF1 : Hid ((i + 1) * 3 + N.length ≤ L.length) := by show _ ≤ _; rw [hLl, hNl]; omega
  have hs1 := spl_length L ((i + 1) * 3) N HF1.out
  have HF2 : Hid (i * 3 + f.cells.length ≤ (spl L ((i + 1) * 3) N).length) := by show _ ≤ _; rw [hs1, hLl, hfl]; omega
  have hs2 := spl_length (spl L ((i + 1) * 3) N) (i * 3) f.cells HF2.out
  have HS2 : Hid ((spl (spl L ((i + 1) * 3) N) (i * 3) f.cells).length = cap * 3) := by show _ = _; rw [hs2, hs1, hLl]
  have HT2 : Hid ((spl (spl L ((i + 1) * 3) N) (i * 3) f.cells).take ((i + 1 + k + 1) * 3) = O ++ (f.cells ++ N)) := by
    show _ = _
    have e0 : (L.take ((i + 1) * 3)).length = (i + 1) * 3 := by rw [List.length_take, hLl]; omega
    have e1 : (spl L ((i + 1) * 3) N).take (i * 3) = O := by
      rw [spl, List.take_append_of_le_length (by rw [e0]; omega), List.take_take, Nat.min_eq_left (by omega), hOt]
    have e2 : (spl L ((i + 1) * 3) N).drop (i * 3 + f.cells.length) = N ++ L.drop ((i + 1) * 3 + N.length) := by
      rw [spl, hfl, show i * 3 + 3 = (i + 1) * 3 from by omega, List.drop_left' e0]
    rw [spl, e1, e2, ← List.append_assoc, ← List.append_assoc, List.take_left' (by rw [List.length_append, List.length_append, hOl, hfl, hNl]; omega), List.append_assoc]
  have HE : Hid ((O ++ (f.cells ++ N)).length = (i + 1 + k + 1) * 3) := by
    show _ = _; rw [List.length_append, List.length_append, hOl, hfl, hNl]; omega
  have HX : Hid ((fs.take i ++ f :: fs.drop i).flatMap FV.cells = O ++ (f.cells ++ N)) := by show _ = _; rw [hO, hN, List.flatMap_append, List.flatMap_cons]
  rw [HX.out]
  have HG : Hid (w.heap[g]? = some (.cells L.toArray 69 (0, 0))) := hg
  have HCM : Hid (cap ≤ maxLen) := hcm
  have HN : Hid (∀ ad, (some ⟨g, i * 3, none⟩ : Option Addr) = some ad → ∀ j v, N[j]? = some v → w.drew.cell? (ad.add j) = some v) := by
    intro ad had j v hv; cases had; rw [Addr.add_lit]; exact hnews j v hv
  have HB : Hid (∀ ad, (some ⟨h, 0, none⟩ : Option Addr) = some ad → ∀ j v, f.cells[j]? = some v → ((w.drew).setRow g (spl L ((i + 1) * 3) N).toArray).cell? (ad.add j) = some v) := by
    intro ad had j v hv; cases had
    rw [Addr.add_lit, cell_setRow_other _ _ _ _ hgh]
    have := hlit j v hv
    rwa [Addr.add_lit] at this
  have H1 : Hid (∀ u ∈ N, u.oneCell' = true) := hone2
  have H2 : Hid (∀ u ∈ f.cells, u.oneCell' = true) := honeF
  clear hb hf hnews hone2 hone hlit honeF hO hN hOl hNl hown hlen hg hcs htake hcm hLl htk hOt hfl hsz hov hm1 hm2 hs1 hs2 hgh
  have hov := HOV.out
  have hx1 : (i : Int) ≤ (i : Int) + 1 + (k : Int) := by omega
  have hx2 : ¬ (i + 1 + k = i) := by omega
  have hx3 : ((i : Int) == (i : Int) + 1 + (k : Int)) = false := by rw [beq_eq_false_iff_ne]; omega
  have hx4 : i ≤ i + 1 + k := by omega
  have hx5 : ¬ cap = i := by omega
  have hx6 : (i : Int) + 1 + (k : Int) + 1 ≤ (cap : Int) := by omega
  go_enter Tryz.func67, Tryz.ntmps67
  go_wp2_with fail
  have hy1 : (0 : Int) ≤ (i : Int) + 1 := by omega
  have hy3 : ¬ cap = i + 1 := by omega
  have hy5 : (i : Int) + 1 ≤ ((i + 1 + k + 1 : Nat) : Int) := by omega
  have hy6 : ((i : Int) + 1).toNat = i + 1 := by omega
  have hy7 : IntKind.i64.wrap ((i : Int) + 1) = (i : Int) + 1 := by rw [IntKind.wrap_i64]; omega
  have hy8 : i ≤ i + 1 + k + 1 := by omega
  have hy9 : (i : Int) + 1 ≤ (i : Int) + 1 + (k : Int) + 1 := by omega
  have hy10 : (i : Int) ≤ (i : Int) + 1 + (k : Int) + 1 := by omega
  go_region_held3 (fun _ => True) (exact trivial) (refine step_builtin2 _ rfl .copy _ _ 62 62 rfl _ _ rfl rfl _ _ (builtin_copy _ (run_copy_spl w.drew 62 62 _ 69 i0 3 Tryz.underlying62 hi0 hz1 g ((i + 1) * 3) (i + 1 + k - i) (cap - (i + 1)) L 69 HG.out (some ⟨g, i * 3, none⟩) (i + 1 + k + 1 - i) (cap - i) N HM2.out HN.out (fun h => by cases h) HF1.out H1.out)) ?_)
  have hg1 := setRow_heap w.drew g _ (spl L ((i + 1) * 3) N).toArray _ _ HG.out
  have HG1 : Hid ((w.drew.setRow g (spl L ((i + 1) * 3) N).toArray).heap[g]? = some (.cells (spl L ((i + 1) * 3) N).toArray 69 (0, 0))) := hg1
  clear hg1
  go_wp2_with (refine wpList_builtin2 _ rfl .copy _ _ 62 62 rfl _ _ rfl rfl _ _ (builtin_copy _ (run_copy_spl (w.drew.setRow g (spl L ((i + 1) * 3) N).toArray) 62 62 _ 69 i0 3 Tryz.underlying62 hi0 hz1 g (i * 3) (i + 1 + k + 1 - i) (cap - i) (spl L ((i + 1) * 3) N) 69 HG1.out (some ⟨h, 0, none⟩) 1 1 f.cells HM1.out HB.out (fun h => by cases h) HF2.out H2.out)) ?_)
  go_ret
  exact ⟨⟨_, rfl, ins_owns rfl (setRow_heap _ _ _ _ _ _ HG1.out) HS2.out HT2.out HE.out hroom HCM.out, Fresh.refl _ _⟩,
    (((Only.refl _ _).drew.trans (only_setRow g _) fun _ _ h => by simpa [Value.ownBlock] using h.symm).trans (only_setRow g _) fun _ _ h => by simpa [Value.ownBlock] using h.symm)⟩

/-- slices.Insert of one file, wherever. -/
theorem insert_any {lv : Value} {n i h : Nat} {f : FV} {fs : List FV} (w : World) (hlen : n = fs.length) (hown : w.ownsRow 0 69 3 lv n (fs.flatMap FV.cells)) (hn : n ≤ 500) (hi : i ≤ n)
    (hb : w.heap[h]? = some (.cells f.cells.toArray 69 (0, 0))) (hgh : ∀ k, lv.ownBlock = some k → h ≠ k) (hf : ∃ a n c, f.pv = .slice a n c) (hone : ∀ u ∈ fs.flatMap FV.cells, u.oneCell' = true) :
    Calls Tryz.prog 67 #[lv, .int .i64 i, .slice (some ⟨h, 0, none⟩) 1 1] w (Inserted w lv ((fs.take i ++ f :: fs.drop i).flatMap FV.cells) (n + 1)) := by
  rcases Nat.lt_or_ge i n with hlt | hge
  · rcases hown.2 with ⟨h1, h2⟩ | ⟨g, cap, cur, h1, _, hg, hnc, hcm, hcs, htake⟩
    · omega
    · subst h1
      obtain ⟨k, rfl⟩ : ∃ k, n = i + 1 + k := ⟨n - (i + 1), by omega⟩
      by_cases hc : i + 1 + k + 1 ≤ cap
      · exact insert_room g h i k cap f fs w hlen hown hn hc hb (hgh g rfl) hf hone
      · obtain rfl : cap = i + 1 + k := by omega
        exact insert_grow g h i k f fs w hlen hown hn hb hf hone
  · obtain rfl : i = n := by omega
    obtain ⟨a, c, hv, _, _⟩ := owns_shape hown
    subst hv
    have e : (fs.take i ++ f :: fs.drop i).flatMap FV.cells = fs.flatMap FV.cells ++ f.cells := by
      rw [hlen, List.take_length, List.drop_length, List.flatMap_append]; simp
    rw [e]
    exact insert_end a i c h f _ w hown hn hb hf

end Go.Proofs.YteddohgdegggnaaGreatDoor
