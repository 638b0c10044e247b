/- What is shown here, as far as 'fmt_is': contracts of the program's functions, and the plain laws that they lean on; conditions: each theorem's own hypotheses. -/
import Derived.Test.YteddohgdegggnaaGreatDoorShelf
import Derived.Test.YteddohgdegggnaaGreatDoorCom
import Derived.Lib.AppendIntMem
import Derived.BigCall
import Derived.BigGuard
namespace Go.HR
open Go.Lib
theorem dig_of (n : Nat) : UInt8.ofNat (48 + n) = dig n := rfl
theorem dec_lib {u : Nat} (h : u ≤ 500) : decDigits u = dec u := by
  unfold dec
  by_cases h1 : u < 10
  · rw [decDigits, dif_pos h1, if_pos h1, dig_of]
  · rw [decDigits, dif_neg h1, if_neg h1]
    by_cases h2 : u < 100
    · rw [decDigits, dif_pos (by omega), if_pos h2]
      rfl
    · rw [decDigits, dif_neg (by omega), decDigits, dif_pos (by omega), if_neg h2]
      simp only [List.cons_append, List.nil_append, dig_of]
      rw [show u / 10 / 10 = u / 100 by omega]
end Go.HR
namespace Go.Proofs.YteddohgdegggnaaGreatDoor
open Go.RowKit Go.HR Go.Sort Go.Lib
open Go.Proofs

theorem grow_ext (w : World) (os : Array Obj) : Ext w (Sort.grow w os) := by
  refine ⟨rfl, rfl, rfl, by simp [Sort.grow], fun k hk _ => ?_⟩
  show (w.heap ++ os)[k]? = _
  rw [Array.getElem?_append_left hk]

set_option maxRecDepth 100000 in
set_option maxHeartbeats 1000000 in
theorem fmt_is (u : Nat) (hu : u ≤ 500) (w : World) (htab : Lib.TabIs Tryz.prog w "internal/strconv.uint64pow10" .u64 Lib.pow10Tab) :
    Calls Tryz.prog 68 #[.int .u64 u, .int .i64 10] w fun e w' => e = .returned (.string ⟨(dec u).toArray⟩) ∧ Ext w w' := by
  by_cases hs : u < 100
  · go_enter Tryz.func68, Tryz.ntmps68
    go_wp2_with (go_at_call 84; refine (Tryz.internal_strconv_small u hs _).mono ?_; rintro e w' ⟨rfl, rfl⟩)
    go_ret
    exact ⟨by rw [dec_lib hu]; rfl, Only.refl _ _⟩
  · have hu1 : 1 ≤ u := by omega
    have hu64 : u < 18446744073709551616 := by omega
    have hnd20 : Lib.nDigits u ≤ 20 := by have := Lib.numDigits_eq u hu1 hu64; split at this <;> omega
    have hal : Tryz.prog.arrayLen 137 = 24 := by kernel_rfl
    have hsl1 : ∀ W, (Instr.sliceAt 137 (.pointer (some ⟨w.heap.size, 0, none⟩)) none (some (.int .i64 (Lib.nDigits u : Int))) none).run Tryz.prog W = .ok (.slice (some ⟨w.heap.size, 0, none⟩) (Lib.nDigits u) 24) W := fun W => by
      rw [run_sliceAt_array_h W 137 ⟨w.heap.size, 0, none⟩ (by simp [Program.arrayLen, Program.elem, Tryz.underlying137]) .i64 (Lib.nDigits u : Int) (by omega) (by rw [hal]; omega)]
      go_simp
    have hH0 := Lib.holds_zero0 w 137 (Lib.nDigits u) (by omega)
    have hfmt := Tryz.internal_strconv_formatBase10 w.heap.size 0 24 u (Array.replicate (Lib.nDigits u) 0) (w.alloc (.cells Lib.zeros24 137)) hH0 (by rw [Array.size_replicate]; exact Lib.lt_pow_nDigits u) hu64 (by rw [Array.size_replicate]; omega)
    rw [Array.size_replicate] at hfmt
    have HH0 := Lib.hid hH0
    clear hH0 hal
    go_enter Tryz.func68, Tryz.ntmps68
    go_wp2_with (first
      | (go_at_call 85; refine (Tryz.internal_strconv_numDigits u hu1 hu64 _ (Lib.tabIs_alloc htab _)).mono ?_; rintro e w' ⟨rfl, rfl⟩))
    go_at_call 86
    refine hfmt.mono ?_
    rintro e w' ⟨rfl, k, v', dk, rfl, hF⟩
    have hcv : (convert 29 9 (.slice (some ⟨w.heap.size, 0, none⟩) (Lib.nDigits u) 24)).run Tryz.prog ((putRow (fun (b : UInt8) => Value.int .u8 (b.toNat : Int)) (w.alloc (.cells Lib.zeros24 137)) w.heap.size 0 dk).drewN k) = .ok (.string ⟨(Lib.decDigits u).toArray⟩) ((putRow (fun (b : UInt8) => Value.int .u8 (b.toNat : Int)) (w.alloc (.cells Lib.zeros24 137)) w.heap.size 0 dk).drewN k) := by
      have h := run_convert_bytes_back (P := Tryz.prog) ((putRow (fun (b : UInt8) => Value.int .u8 (b.toNat : Int)) (w.alloc (.cells Lib.zeros24 137)) w.heap.size 0 dk).drewN k) 29 9 5 ⟨w.heap.size, 0, none⟩ 24 (Lib.decDigits u) Tryz.underlying29 Tryz.underlying5 Tryz.underlying9 (fun j hj => by
        rw [Lib.row_is_numeral hF j hj, Lib.add_plain, World.cell?_drewN]
        exact cell?_putRow (fun (b : UInt8) => Value.int .u8 (b.toNat : Int)) _ w.heap.size 0 _ dk HH0.out (by rw [hF.size, Array.size_replicate]) j (by rw [hF.size]; rw [Lib.decDigits_length] at hj; exact hj))
      rw [Lib.decDigits_length] at h
      exact h
    go_wp2
    go_ret
    obtain ⟨os, eo⟩ := Lib.fin_at w (.cells Lib.zeros24 137) dk k 0
    exact ⟨by rw [dec_lib hu]; rfl, by rw [eo]; exact ((Only.refl (fun _ => False) w).drewN k).trans (grow_ext _ _) fun _ _ h => h⟩

end Go.Proofs.YteddohgdegggnaaGreatDoor
