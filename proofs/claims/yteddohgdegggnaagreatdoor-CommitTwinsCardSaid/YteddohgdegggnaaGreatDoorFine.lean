/- The law's helper 'fine': of a list of changes, as far as ten, those that can be kept; conditions: each theorem's own hypotheses. -/
import Derived.Test.YteddohgdegggnaaGreatDoorSys
namespace Go.HR
/-- What any change's cells hold. -/
structure ChgG.WF (c : ChgG) : Prop where
  rev : c.rev < 18446744073709551616
  s1 : -9223372036854775808 ≤ c.start
  s2 : c.start < 9223372036854775808
  f1 : -9223372036854775808 ≤ c.fin
  f2 : c.fin < 9223372036854775808
  a : c.a.OK
def ChgG.fine (c : ChgG) : Bool := decide (c.rev ≤ 1099511627776) && (decide (c.key.size ≤ 32) && decide (c.a.count ≤ 1099511627776))
def fineL (l : List ChgG) : List ChgG := (l.take 10).filter ChgG.fine
theorem fine_ok {c : ChgG} (h : c.WF) (hf : c.fine = true) : c.OK := by
  simp only [ChgG.fine, Bool.and_eq_true, decide_eq_true_eq] at hf
  exact ⟨hf.1, by have : c.key.toList.length = c.key.size := by rw [ByteArray.toList_eq]; rfl
                  omega, h.s1, h.s2, h.f1, h.f2, h.a, hf.2.2⟩
theorem fineL_ok {l : List ChgG} (h : ∀ c ∈ l, c.WF) : ∀ c ∈ fineL l, c.OK := fun c hc => by
  obtain ⟨h1, h2⟩ := List.mem_filter.1 hc
  exact fine_ok (h c (List.mem_of_mem_take h1)) h2
theorem fineL_len (l : List ChgG) : (fineL l).length ≤ 10 := Nat.le_trans (List.length_filter_le _ _) (by rw [List.length_take]; omega)
def fineT (l : List ChgG) (k : Nat) : List ChgG := (l.take k).filter ChgG.fine
def fineN (l : List ChgG) (k : Nat) : Nat := (fineT l k).length
theorem fineT_yes {l : List ChgG} {k : Nat} {c : ChgG} (h : l[k]? = some c) (hf : c.fine = true) : fineT l (k + 1) = fineT l k ++ [c] := by
  obtain ⟨hlt, he⟩ := List.getElem?_eq_some_iff.1 h
  unfold fineT
  rw [List.take_succ_eq_append_getElem hlt, List.filter_append, he]
  simp [hf]
theorem fineT_no {l : List ChgG} {k : Nat} {c : ChgG} (h : l[k]? = some c) (hf : c.fine = false) : fineT l (k + 1) = fineT l k := by
  obtain ⟨hlt, he⟩ := List.getElem?_eq_some_iff.1 h
  unfold fineT
  rw [List.take_succ_eq_append_getElem hlt, List.filter_append, he]
  simp [hf]
theorem fineT_len (l : List ChgG) (k : Nat) : fineN l k ≤ k := Nat.le_trans (List.length_filter_le _ _) (by rw [List.length_take]; omega)
theorem fineT_end {l : List ChgG} {k : Nat} (h : k = l.length ∨ k = 10) (hk : k ≤ 10) : fineT l k = fineL l := by
  unfold fineT fineL
  rcases h with h | h
  · rw [List.take_of_length_le (by omega), List.take_of_length_le (by omega)]
  · rw [h]
end Go.HR
namespace Go.Proofs.YteddohgdegggnaaGreatDoor
open Go.RowKit Go.HR
open Go.Proofs

attribute [local go_sem] run_store_float

theorem rd_chg {w : World} {g off : Nat} {l : List ChgG} (h : ∀ (j : Nat) (u : Value), (l.flatMap ChgG.cells)[j]? = some u → w.cell? ⟨g, off + j, none⟩ = some u) (k : Nat) (x : ChgG) (hx : l[k]? = some x) (j : Nat) (v : Value) (hj : j < 10) (hv : x.cells[j]? = some v) : w.cell? ⟨g, off + k * 10 + j, none⟩ = some v := by
  have := h (k * 10 + j) v (by rw [cells_get l k j x hx hj]; exact hv)
  rwa [← Nat.add_assoc] at this

set_option maxRecDepth 100000 in
set_option maxHeartbeats 4000000 in
theorem fine_is (v : Value) (l : List ChgG) (w : World) (h : Arg w [] v l.length (l.flatMap ChgG.cells)) :
    Calls Tryz.prog 12 #[v] w fun e w' => ∃ v', e = .returned v' ∧ NewRow 61 10 w (fineL l).length ((fineL l).flatMap ChgG.cells) v' w' := by
  obtain ⟨i0, hi, hz0, hz1, hz2⟩ := info_parts Tryz.infoChg
  obtain ⟨va, vc, rfl, hvl, hvm⟩ := h.shape
  have H : Hid (Arg w [] (.slice va l.length vc) l.length (l.flatMap ChgG.cells)) := h
  clear h
  go_enter Tryz.func12, Tryz.ntmps12
  go_wp2_with fail
  go_loopw [3, 4] (fun out i wr => ∃ k : Nat, i = .int .i64 k ∧ k ≤ l.length ∧ k ≤ 10 ∧ Hid (NewRow 61 10 w (fineN l k) ((fineT l k).flatMap ChgG.cells) out wr)) (fun _ i _ => l.length - (intOf i).toNat)
  case atStart => exact ⟨0, rfl, Nat.zero_le _, Nat.zero_le _, NewRow.none _ _ (Only.refl _ _)⟩
  case round =>
    obtain ⟨k, rfl, hk, hk10, HJ⟩ := hrel
    rename World => wr
    obtain ⟨oa, oc, rfl, _, _⟩ := owns_shape HJ.out.owns
    by_cases hlt : k < l.length
    · by_cases hlt10 : k < 10
      · obtain ⟨x, hx⟩ : ∃ x, l[k]? = some x := ⟨_, List.getElem?_eq_getElem hlt⟩
        obtain ⟨g, off, cap, hv, _, _, _, hc⟩ : ∃ g off cap, Value.slice va l.length vc = .slice (some ⟨g, off, none⟩) l.length cap ∧ l.length ≤ cap ∧ cap ≤ maxLen ∧ g < wr.heap.size ∧ ∀ (j : Nat) (u : Value), (l.flatMap ChgG.cells)[j]? = some u → wr.cell? ⟨g, off + j, none⟩ = some u := by
          rcases (H.out.rd (by omega)).1.ext HJ.out.ext with ⟨_, h0, _⟩ | h
          · omega
          · exact h
        obtain ⟨rfl, rfl⟩ : va = some ⟨g, off, none⟩ ∧ vc = cap := by simp at hv; exact hv
        have d0 : wr.cell? ⟨g, off + k * 10, none⟩ = some (.bool x.put) := rd_chg hc k x hx 0 _ (by omega) rfl
        have d1 := rd_chg hc k x hx 1 (.int .u64 x.rev) (by omega) rfl
        have d2 := rd_chg hc k x hx 2 (.string x.key) (by omega) rfl
        have d3 := rd_chg hc k x hx 3 (.int .i64 x.start) (by omega) rfl
        have d4 := rd_chg hc k x hx 4 (.int .i64 x.fin) (by omega) rfl
        have d5 := rd_chg hc k x hx 5 (.int .u64 x.a.count) (by omega) rfl
        have d6 := rd_chg hc k x hx 6 (.float .f64 x.a.sum) (by omega) rfl
        have d7 := rd_chg hc k x hx 7 (.bool x.a.over) (by omega) rfl
        have d8 := rd_chg hc k x hx 8 (.float .f64 x.a.min) (by omega) rfl
        have d9 := rd_chg hc k x hx 9 (.float .f64 x.a.max) (by omega) rfl
        have HX : Hid (l[k]? = some x) := hx
        have hkl : (k : Int) < l.length := by omega
        have hk1 : (k : Int) < 10 := by omega
        clear hx hc hv
        cases hf : x.fine with
        | true =>
          have hf' := hf
          simp only [ChgG.fine, Bool.and_eq_true, decide_eq_true_eq] at hf'
          obtain ⟨f1, f2, f3⟩ := hf'
          have HF : Hid (x.fine = true) := hf
          have q1 : ((x.rev : Int) ≤ 1099511627776) := by omega
          have q2 : ((x.key.size : Int) ≤ 32) := by omega
          have q3 : ((x.a.count : Int) ≤ 1099511627776) := by omega
          have hnk := fineT_len l k
          obtain ⟨t, ht⟩ : ∃ t, t = fineN l k := ⟨_, rfl⟩
          have HTE : Hid (t = fineN l k) := ht
          have hj := HJ.out
          rw [← ht] at hj hnk
          rw [← ht]
          have HJ1 : Hid (NewRow 61 10 w t ((fineT l k).flatMap ChgG.cells) (.slice oa t oc) wr) := hj
          have hsrc : Src Tryz.prog 10 33 (.slice (some ⟨wr.heap.size, 0, none⟩) 1 1) 1 x.cells (wr.alloc (.cells x.cells.toArray 61)) := src_cells Tryz.underlying33 wr _ (chg_one _) _ rfl rfl
          have HSRC : Hid _ := hsrc
          clear hf ht hj hsrc f1 f2 f3 HJ
          go_wp2_with (at_builtin; refine wpList_append_any _ rfl _ _ 33 33 rfl 61 i0 (.agg #[.bool false, .int .u64 0, .string ByteArray.empty, .int .i64 0, .int .i64 0, .int .u64 0, .float .f64 0, .bool false, .float .f64 0, .float .f64 0]) 10 88 Tryz.underlying33 hi hz0 hz1 hz2 rfl _ t _ rfl (owns_ext HJ1.out.owns ((Only.refl _ _).alloc _)) _ rfl 1 _ HSRC.out (by simp only [maxLen]; omega) (by omega) ?_)
          intro v' w1 hap _
          have hn1 := (HJ1.out.thenExt ((Only.refl _ _).alloc _)).append hap
          have HN1 : Hid _ := hn1
          clear hap hn1 d0 d1 d2 d3 d4 d5 d6 d7 d8 d9
          go_wp2
          go_roundw
          case rel =>
            refine ⟨k + 1, by go_num, by omega, by omega, ?_⟩
            have e1 := fineT_yes HX.out HF.out
            have e2 : fineN l (k + 1) = t + 1 := by unfold fineN; rw [e1, List.length_append, HTE.out]; rfl
            have e3 : (fineT l (k + 1)).flatMap ChgG.cells = (fineT l k).flatMap ChgG.cells ++ x.cells := by rw [e1]; simp
            show NewRow _ _ _ _ _ _ _
            rw [e2, e3]
            exact HN1.out
          case measure => simp [intOf]; omega
        | false =>
          have HJ2 : Hid (NewRow 61 10 w (fineN l (k + 1)) ((fineT l (k + 1)).flatMap ChgG.cells) (.slice oa (fineN l k) oc) wr) := by
            show NewRow _ _ _ _ _ _ _
            have e1 := fineT_no HX.out hf
            have e2 : fineN l (k + 1) = fineN l k := by unfold fineN; rw [e1]
            rw [e2, e1]
            exact HJ.out
          have HF : Hid (x.fine = false) := hf
          clear hf HJ
          by_cases f1 : x.rev ≤ 1099511627776
          · have q1 : ((x.rev : Int) ≤ 1099511627776) := by omega
            by_cases f2 : x.key.size ≤ 32
            · have q2 : ((x.key.size : Int) ≤ 32) := by omega
              by_cases f3 : x.a.count ≤ 1099511627776
              · have := HF.out
                simp [ChgG.fine, f1, f2, f3] at this
              · have q3 : ¬ ((x.a.count : Int) ≤ 1099511627776) := by omega
                clear f1 f2 f3
                go_wp2_with fail
                go_roundw
                case rel => exact ⟨k + 1, by go_num, by omega, by omega, HJ2.out⟩
                case measure => simp [intOf]; omega
            · have q2 : ¬ ((x.key.size : Int) ≤ 32) := by omega
              clear f1 f2
              go_wp2_with fail
              go_roundw
              case rel => exact ⟨k + 1, by go_num, by omega, by omega, HJ2.out⟩
              case measure => simp [intOf]; omega
          · have q1 : ¬ ((x.rev : Int) ≤ 1099511627776) := by omega
            clear f1
            go_wp2_with fail
            go_roundw
            case rel => exact ⟨k + 1, by go_num, by omega, by omega, HJ2.out⟩
            case measure => simp [intOf]; omega
      · obtain rfl : k = 10 := by omega
        have hkl : (10 : Int) < l.length := by omega
        have HE : Hid (fineT l 10 = fineL l) := fineT_end (.inr rfl) (by omega)
        go_wp2
        go_ret
        have hj := HJ.out
        rw [HE.out] at hj
        have hN : fineN l 10 = (fineL l).length := by unfold fineN; rw [HE.out]
        exact ⟨_, rfl, by rw [← hN]; exact hj⟩
    · have HE : Hid (fineT l k = fineL l) := fineT_end (.inl (by omega)) hk10
      have hkl : ¬ ((k : Int) < l.length) := by omega
      go_wp2
      go_ret
      have hj := HJ.out
      rw [HE.out] at hj
      have hN : fineN l k = (fineL l).length := by unfold fineN; rw [HE.out]
      exact ⟨_, rfl, by rw [← hN]; exact hj⟩

end Go.Proofs.YteddohgdegggnaaGreatDoor
