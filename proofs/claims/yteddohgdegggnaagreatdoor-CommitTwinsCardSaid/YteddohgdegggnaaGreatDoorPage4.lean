/- What is shown here, as far as 'pageone_is': contracts of the program's functions, and the plain laws that they lean on; conditions: each theorem's own hypotheses. -/
import Derived.Test.YteddohgdegggnaaGreatDoorPage3
namespace Go.Proofs.YteddohgdegggnaaGreatDoor
open Go.RowKit Go.HR
open Go.Proofs

def PageOne (w : World) (l : List UInt8) (e : Ending) (w' : World) : Prop := ∃ v, e = .returned (.tuple #[v, .int .i64 0]) ∧ NewRow 5 1 w l.length (by8 l) v w'

set_option maxRecDepth 100000 in
set_option maxHeartbeats 2000000 in
theorem pageone_is (kind : UInt8) (l : List UInt8) (v : Value) (w : World) (h : Rd w v (9 + l.length) (by8 (pageB kind l))) (hl : l.length ≤ 1048576) (ht : TableAt w 0) :
    Calls Tryz.prog 31 #[v, .int .u8 kind.toNat] w (PageOne w l) := by
  obtain ⟨va, vc, rfl, _, _⟩ := h.shape
  have H : Hid (Rd w (.slice va (9 + l.length) vc) (9 + l.length) (by8 (pageB kind l))) := h
  clear h
  go_enter Tryz.func31, Tryz.ntmps31
  go_wp2_with fail
  refine (pageread_is kind l _ w H.out hl ht).mono ?_
  rintro e w1 ⟨v1, rfl, hn⟩
  have HN : Hid (NewRow 5 1 w l.length (by8 l) v1 w1) := hn
  clear hn
  go_wp2
  go_ret2
  exact ⟨v1, rfl, HN.out⟩

end Go.Proofs.YteddohgdegggnaaGreatDoor
