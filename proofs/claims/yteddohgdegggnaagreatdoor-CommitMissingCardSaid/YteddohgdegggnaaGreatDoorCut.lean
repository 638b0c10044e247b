/- What is shown here, as far as 'parse_bad': contracts of the program's functions, and the plain laws that they lean on; conditions: each theorem's own hypotheses. -/
import Derived.Test.YteddohgdegggnaaGreatDoorLast
import Derived.Lib.UnsafeStr
namespace Go.HR
open Go.Lib
def Nm.what : Nm → List UInt8
  | .man => [109, 97, 110]
  | .tmp => [109, 97, 110]
  | .out _ => [111, 117, 116]
  | .state _ => [115, 116, 97, 116, 101]
def Nm.num : Nm → List UInt8
  | .man => []
  | .tmp => [116, 109, 112]
  | .out i => dec i
  | .state i => dec i
def Nm.dot : Nm → Bool
  | .man => false
  | _ => true
theorem cut_out : ∀ i, i < 501 → cut (Nm.out i).name [46] = ([111, 117, 116], dec i, true) := by decide +kernel
theorem cut_state : ∀ i, i < 501 → cut (Nm.state i).name [46] = ([115, 116, 97, 116, 101], dec i, true) := by decide +kernel
theorem cut_name {m : Nm} (h : m.OK) : cut m.name [46] = (m.what, m.num, m.dot) := by
  cases m with
  | man => decide +kernel
  | tmp => decide +kernel
  | out i => exact cut_out i (Nat.lt_succ_of_le h)
  | state i => exact cut_state i (Nat.lt_succ_of_le h)
def okAs (r : NumEnd Nat) (i : Nat) : Bool := match r with
  | .ok u => u == i
  | _ => false
theorem okAs_eq {r : NumEnd Nat} {i : Nat} (h : okAs r i = true) : r = .ok i := by
  unfold okAs at h
  split at h
  · simp at h; rw [h]
  · cases h
theorem parse_dec : ∀ i, i < 501 → okAs (parseUintB 32 (dec i)) i = true := by decide +kernel
theorem name_len {m : Nm} : m.name.length ≤ 9 := by
  cases m with
  | man => decide
  | tmp => decide
  | out i => have := dec_len' i; simp only [Nm.name, List.length_append, List.length_cons, List.length_nil]; omega
  | state i => have := dec_len' i; simp only [Nm.name, List.length_append, List.length_cons, List.length_nil]; omega
theorem num_len {m : Nm} : m.num.length ≤ 3 := by
  cases m with
  | man => decide
  | tmp => decide
  | out i => exact dec_len' i
  | state i => exact dec_len' i
end Go.HR
namespace Go.Proofs.YteddohgdegggnaaGreatDoor
open Go.RowKit Go.HR
open Go.Proofs

theorem ext_of_below {w w' : World} (h : Below w.heap.size w w') : Ext w w' := ⟨h.1, h.2, h.3, h.4, fun k hk _ => h.5 k hk⟩
theorem bytesWorld_ext (w : World) (e : TypeId) (s : ByteArray) : Ext w (Lib.bytesWorld w e s) :=
  ext_of_below (Go.Lib.below_freeze (Only.below (F := fun _ => False) (((Only.refl _ _).drew).alloc _) (Nat.le_refl _) fun _ h => h.elim) (Nat.le_refl _) 1)

theorem cut_is (m : Nm) (hm : m.OK) (w : World) (hg : Gl w) :
    Calls Tryz.prog 35 #[.string ⟨m.name.toArray⟩, .string ⟨#[46]⟩] w fun e w' => e = .returned (.tuple #[.string ⟨m.what.toArray⟩, .string ⟨m.num.toArray⟩, .bool m.dot]) ∧ Ext w w' := by
  obtain ⟨mx, hmx⟩ := hg.maxlen
  have hl := name_len (m := m)
  refine (Tryz.strings_Cut ⟨m.name.toArray⟩ ⟨#[46]⟩ mx w (by rw [bytes_size]; omega) hmx).mono ?_
  rintro e w' ⟨rfl, n, rfl⟩
  rw [show (⟨m.name.toArray⟩ : ByteArray).data.toList = m.name from rfl, show (⟨#[46]⟩ : ByteArray).data.toList = [46] from rfl, cut_name hm]
  exact ⟨rfl, (Only.refl _ _).drewN n⟩

theorem parse_ok (m : Nm) (i : Nat) (hm : m = .out i ∨ m = .state i) (hi : i ≤ 500) (w : World) :
    Calls Tryz.prog 36 #[.string ⟨m.num.toArray⟩, .int .i64 10, .int .i64 32] w fun e w' => e = .returned (.tuple #[.int .u64 i, .nilIface]) ∧ Ext w w' := by
  have hn : m.num = dec i := by rcases hm with rfl | rfl <;> rfl
  have hl := num_len (m := m)
  refine (Tryz.strconv_ParseUint_10_at32_ok ⟨m.num.toArray⟩ (by rw [bytes_size]; omega) i (by show Lib.parseUintB 32 m.num = _; rw [hn]; exact okAs_eq (parse_dec i (by omega))) w).mono ?_
  rintro e w' ⟨rfl, rfl | rfl⟩
  · exact ⟨rfl, Only.refl _ _⟩
  · exact ⟨rfl, bytesWorld_ext _ _ _⟩

theorem parse_bad (m : Nm) (hm : m = .man ∨ m = .tmp) (w : World) (hg : Gl w) :
    Calls Tryz.prog 36 #[.string ⟨m.num.toArray⟩, .int .i64 10, .int .i64 32] w fun e w' => (∃ N, e = .returned (.tuple #[.int .u64 0, .iface 129 (.pointer (some ⟨N, 0, none⟩))])) ∧ Ext w w' := by
  obtain ⟨tp, p, hs⟩ := hg.syn
  rcases hm with rfl | rfl
  · refine (Any.strconv_ParseUint_10_at32_syntax Tryz.laysPu14 ⟨#[]⟩ (by decide) (by kernel_rfl) _ w hs (.inr ⟨tp, p, rfl⟩)).mono ?_
    rintro e w' ⟨N, rfl, _, _, hb⟩
    exact ⟨⟨N, rfl⟩, ext_of_below hb⟩
  · refine (Any.strconv_ParseUint_10_at32_syntax Tryz.laysPu14 ⟨#[116, 109, 112]⟩ (by decide) (by kernel_rfl) _ w hs (.inr ⟨tp, p, rfl⟩)).mono ?_
    rintro e w' ⟨N, rfl, _, _, hb⟩
    exact ⟨⟨N, rfl⟩, ext_of_below hb⟩

end Go.Proofs.YteddohgdegggnaaGreatDoor
