/- What is shown here, as far as 'rnumber_is': contracts of the program's functions, and the plain laws that they lean on; conditions: each theorem's own hypotheses. -/
import Derived.Test.YteddohgdegggnaaGreatDoorRdr2
namespace Go.HR
/-- A number's bits; of all that are none the one. -/
def canon (x : Nat) : Nat := if FloatKind.f64.format.order x x == some .eq then x else 9221120237041090560
theorem canon_canon (x : Nat) : canon (canon x) = canon x := by
  by_cases h : (FloatKind.f64.format.order x x == some .eq) = true
  · have : canon x = x := by unfold canon; rw [if_pos h]
    rw [this, this]
  · have : canon x = 9221120237041090560 := by unfold canon; rw [if_neg h]
    rw [this]
    unfold canon
    split <;> rfl
theorem canon_lt {x : Nat} (h : x < 18446744073709551616) : canon x < 18446744073709551616 := by unfold canon; split <;> omega
end Go.HR
namespace Go.Proofs.YteddohgdegggnaaGreatDoor
open Go.RowKit Go.HR
open Go.Proofs

theorem floatbits_run (x : Nat) (w : World) : (callFunc 97 #[.float .f64 x]).run Tryz.prog w = .ok (.value (.int .u64 x)) w := by
  rw [run_callFunc_extern Tryz.func97 (by kernel_rfl) (by kernel_rfl) (by kernel_rfl) (e := Extern.MathFloatBits.float64bits) (by kernel_rfl)]
  rfl
theorem frombits_run (x : Nat) (w : World) : (callFunc 105 #[.int .u64 x]).run Tryz.prog w = .ok (.value (.float .f64 x)) w := by
  rw [run_callFunc_extern Tryz.func105 (by kernel_rfl) (by kernel_rfl) (by kernel_rfl) (e := Extern.MathFloatBits.float64frombits) (by kernel_rfl)]
  rfl

theorem isnan_is (x : Nat) (w : World) : Calls Tryz.prog 109 #[.float .f64 x] w fun e w' => e = .returned (.bool (!(FloatKind.f64.format.order x x == some .eq))) ∧ w = w' := by
  go_enter Tryz.func109, Tryz.ntmps109
  go_wp2
  go_ret
  exact ⟨rfl, rfl⟩

set_option maxRecDepth 100000 in
theorem canon_is (x : Nat) (w : World) : Calls Tryz.prog 98 #[.float .f64 x] w fun e w' => e = .returned (.float .f64 (canon x)) ∧ w = w' := by
  obtain ⟨q, hq⟩ : ∃ q, q = (FloatKind.f64.format.order x x == some .eq) := ⟨_, rfl⟩
  have HC : Hid (canon x = if q then x else 9221120237041090560) := by show canon x = _; rw [canon, hq]
  have HQ : Hid (q = (FloatKind.f64.format.order x x == some .eq)) := hq
  clear hq
  have hfb : (callFunc 105 #[.int .u64 9221120237041090560]).run Tryz.prog w = .ok (.value (.float .f64 9221120237041090560)) w := frombits_run 9221120237041090560 w
  go_enter Tryz.func98, Tryz.ntmps98
  go_wp2_with fail
  refine (isnan_is x w).mono ?_
  rintro e w' ⟨rfl, rfl⟩
  rw [← HQ.out]
  cases q
  · go_wp2
    go_ret
    rw [HC.out]
    exact ⟨rfl, rfl⟩
  · go_wp2
    go_ret
    rw [HC.out]
    exact ⟨rfl, rfl⟩

set_option maxRecDepth 100000 in
theorem bits_is (x : Nat) (w : World) : Calls Tryz.prog 81 #[.float .f64 x] w fun e w' => e = .returned (.int .u64 (canon x)) ∧ w = w' := by
  have hfb := floatbits_run (canon x) w
  go_enter Tryz.func81, Tryz.ntmps81
  go_wp2_with fail
  refine (canon_is x w).mono ?_
  rintro e w' ⟨rfl, rfl⟩
  go_wp2
  go_ret
  exact ⟨rfl, rfl⟩

set_option maxRecDepth 100000 in
theorem of_is (x : Nat) (w : World) : Calls Tryz.prog 88 #[.int .u64 x] w fun e w' => e = .returned (.float .f64 (canon x)) ∧ w = w' := by
  have hfb := frombits_run x w
  go_enter Tryz.func88, Tryz.ntmps88
  go_wp2_with fail
  refine (canon_is x w).mono ?_
  rintro e w' ⟨rfl, rfl⟩
  go_wp2
  go_ret
  exact ⟨rfl, rfl⟩

set_option maxRecDepth 100000 in
theorem rnumber_is (rb gb x : Nat) (l : List UInt8) (w : World) (h : RdrAt w rb gb (leb (canon x) ++ l)) (hx : x < 18446744073709551616) :
    Calls Tryz.prog 69 #[.pointer (some ⟨rb, 0, none⟩)] w fun e w' => e = .returned (.float .f64 (canon x)) ∧ RdrAt w' rb gb l ∧ Only (fun k => k = rb) w w' := by
  have hc := canon_lt hx
  have HC : Hid (canon (canon x) = canon x) := canon_canon x
  go_enter Tryz.func69, Tryz.ntmps69
  go_wp2_with fail
  refine (ruint_is rb gb (canon x) 18446744073709551615 l w h hc (by omega) (by omega)).mono ?_
  rintro e w1 ⟨rfl, hr, ho⟩
  go_wp2_with fail
  refine (of_is (canon x) w1).mono ?_
  rintro e w' ⟨rfl, rfl⟩
  rw [HC.out]
  go_wp2_with fail
  refine (bits_is (canon x) w1).mono ?_
  rintro e w' ⟨rfl, rfl⟩
  rw [HC.out]
  go_wp2_with fail
  refine (check_is rb w1).mono ?_
  rintro e w' ⟨rfl, rfl⟩
  go_wp2
  go_ret
  exact ⟨rfl, hr, ho⟩

end Go.Proofs.YteddohgdegggnaaGreatDoor
