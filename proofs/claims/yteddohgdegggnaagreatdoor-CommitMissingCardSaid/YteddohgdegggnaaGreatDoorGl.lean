/- What is shown here, as far as 'last1_is': contracts of the program's functions, and the plain laws that they lean on; conditions: each theorem's own hypotheses. -/
import Derived.Test.YteddohgdegggnaaGreatDoorFmt
import Derived.Test.YteddohgdegggnaaGreatDoorLed2
namespace Go.Proofs.YteddohgdegggnaaGreatDoor
open Go.RowKit Go.HR
open Go.Proofs

/-- What package variables hold. -/
structure Gl (w : World) : Prop where
  table : TableAt w 0
  maxlen : ∃ m : Int, w.cell? ⟨1, 0, none⟩ = some (.int .i64 m)
  syn : ∃ tp p, w.cell? ⟨2, 0, none⟩ = some (.iface tp p)
  tab : Lib.TabIs Tryz.prog w "internal/strconv.uint64pow10" .u64 Lib.pow10Tab
  base : 8 ≤ w.heap.size

theorem Tryz.pow10_at : Tryz.prog.globalNamed "internal/strconv.uint64pow10" = some 4 := by kernel_rfl

theorem Gl.keep {F : Nat → Prop} {w w' : World} (h : Gl w) (ho : Only F w w') (hF : ∀ k, k < 8 → ¬ F k) : Gl w' where
  table := TableAt.keep h.table ho (hF 0 (by omega))
  maxlen := h.maxlen.imp fun _ hm => ho.cell hm (hF 1 (by omega))
  syn := h.syn.imp fun _ h => h.imp fun _ hm => ho.cell hm (hF 2 (by omega))
  tab := by
    have h1 := h.tab
    unfold Lib.TabIs World.var? at *
    rw [Tryz.pow10_at] at h1 ⊢
    simp only [Option.bind_some] at h1 ⊢
    have hlt : 4 < w.heap.size := by
      rcases Nat.lt_or_ge 4 w.heap.size with h' | h'
      · exact h'
      · rw [Array.getElem?_eq_none h'] at h1; simp at h1
    rw [ho.block 4 hlt (hF 4 (by omega))]
    exact h1
  base := Nat.le_trans h.base ho.size
theorem Gl.ext {w w' : World} (h : Gl w) (ho : Ext w w') : Gl w' := h.keep ho fun _ _ => id
theorem Gl.lt {w : World} (h : Gl w) : 2 < w.heap.size := by
  obtain ⟨tp, p, h1⟩ := h.syn
  exact World.block_lt_of_cell? w _ h1

theorem bytes_of (l : List UInt8) : (⟨l.toArray⟩ : ByteArray).toList = l := by rw [ByteArray.toList_eq]
theorem bytes_size (l : List UInt8) : (⟨l.toArray⟩ : ByteArray).size = l.length := rfl

theorem dec_len (n : Nat) : (dec n).length ≤ 3 := dec_len' n
theorem cat_bytes (x y : List UInt8) : (⟨x.toArray⟩ : ByteArray) ++ ⟨y.toArray⟩ = ⟨(x ++ y).toArray⟩ := by
  apply ByteArray.ext
  simp

set_option maxRecDepth 100000 in
set_option maxHeartbeats 1000000 in
theorem file_out (n : Nat) (hn : n ≤ 500) (w : World) (hg : Gl w) :
    Calls Tryz.prog 24 #[.string ⟨#[111, 117, 116]⟩, .int .u64 n] w fun e w' => e = .returned (.string ⟨(Nm.out n).name.toArray⟩) ∧ Ext w w' := by
  have hl := dec_len n
  have hlen : ¬ 9223372036854775807 < 4 + (dec n).length := by omega
  have HE : Hid ((⟨#[111, 117, 116]⟩ : ByteArray) ++ ⟨#[46]⟩ ++ ⟨(dec n).toArray⟩ = ⟨(Nm.out n).name.toArray⟩) := by
    show _ = _
    rw [cat_bytes [111, 117, 116] [46], cat_bytes]
    rfl
  clear hl
  go_enter Tryz.func24, Tryz.ntmps24
  go_wp2_with (first
    | (go_at_call 43; go_in)
    | (go_at_call 68; refine (fmt_is n hn _ hg.tab).mono ?_; rintro e w' ⟨rfl, hx⟩))
  go_ret
  exact ⟨by rw [← HE.out]; rfl, hx⟩

set_option maxRecDepth 100000 in
set_option maxHeartbeats 1000000 in
theorem file_state (n : Nat) (hn : n ≤ 500) (w : World) (hg : Gl w) :
    Calls Tryz.prog 24 #[.string ⟨#[115, 116, 97, 116, 101]⟩, .int .u64 n] w fun e w' => e = .returned (.string ⟨(Nm.state n).name.toArray⟩) ∧ Ext w w' := by
  have hl := dec_len n
  have hlen : ¬ 9223372036854775807 < 6 + (dec n).length := by omega
  have HE : Hid ((⟨#[115, 116, 97, 116, 101]⟩ : ByteArray) ++ ⟨#[46]⟩ ++ ⟨(dec n).toArray⟩ = ⟨(Nm.state n).name.toArray⟩) := by
    show _ = _
    rw [cat_bytes [115, 116, 97, 116, 101] [46], cat_bytes]
    rfl
  clear hl
  go_enter Tryz.func24, Tryz.ntmps24
  go_wp2_with (first
    | (go_at_call 43; go_in)
    | (go_at_call 68; refine (fmt_is n hn _ hg.tab).mono ?_; rintro e w' ⟨rfl, hx⟩))
  go_ret
  exact ⟨by rw [← HE.out]; rfl, hx⟩

set_option maxRecDepth 100000 in
set_option maxHeartbeats 1000000 in
theorem lost_is (e : Int) (he : e = 5 ∨ e = 9) (w : World) : Calls Tryz.prog 25 #[.int .i64 e] w fun r w' => r = .returned (.int .i64 (if e = 5 then 3 else e)) ∧ w' = w := by
  rcases he with rfl | rfl
  all_goals
    go_enter Tryz.func25, Tryz.ntmps25
    go_wp2
    go_ret
    exact ⟨rfl, rfl⟩

set_option maxRecDepth 100000 in
set_option maxHeartbeats 1000000 in
theorem last1_is (rb gb c k : Nat) (w : World) (h : RdrAt w rb gb (leb k)) (hk : k ≤ 500) (hc : w.heap[c]? = some (.cells #[.int .u64 0] 27 (0, 0))) (hcr : c ≠ rb) (hcg : c ≠ gb) :
    Calls Tryz.prog 33 #[.pointer (some ⟨rb, 0, none⟩), .pointer (some ⟨c, 0, none⟩)] w fun e w' => e = .returned (.tuple #[]) ∧ RdrAt w' rb gb [] ∧ w'.heap[c]? = some (.cells #[.int .u64 k] 27 (0, 0)) ∧ Only (fun j => j = c ∨ j = rb) w w' := by
  have h' : RdrAt w rb gb (leb k ++ []) := by rw [List.append_nil]; exact h
  have HC : Hid (w.heap[c]? = some (.cells #[.int .u64 0] 27 (0, 0))) := hc
  clear h hc
  go_enter Tryz.func33, Tryz.ntmps33
  go_wp2_with fail
  refine (ruint_is rb gb k 500 [] w h' (by omega) hk (by omega)).mono ?_
  rintro e w1 ⟨rfl, hr1, ho1⟩
  have hc1 := ho1.heap HC.out hcr
  have t1 : w1.cell? ⟨c, 0, none⟩ = some (.int .u64 0) := by simp [World.cell?, hc1]
  have t2 : w1.frozen? ⟨c, 0, none⟩ = false := by simp [World.frozen?, hc1]
  have hc2 := heap_setCell_same w1 c 0 _ _ (.int .u64 k) hc1
  have hset : Only (fun j => j = c) w1 (w1.setCell ⟨c, 0, none⟩ (.int .u64 k)) := only_set (Only.refl _ _) _ _
  have HR : Hid (RdrAt w1 rb gb []) := hr1
  have HO1 : Hid (Only (fun j => j = rb) w w1) := ho1
  have HC2 : Hid _ := hc2
  have HSET : Hid _ := hset
  clear hc1 hr1 ho1 hc2 hset
  go_wp2_with fail
  go_end0
  exact ⟨rfl, HR.out.keep HSET.out (fun e => hcr e.symm) (fun e => hcg e.symm), HC2.out, (HO1.out.mono fun _ _ e => .inr e).trans (HSET.out.mono fun _ _ e => .inl e) fun _ _ h => h⟩

end Go.Proofs.YteddohgdegggnaaGreatDoor
