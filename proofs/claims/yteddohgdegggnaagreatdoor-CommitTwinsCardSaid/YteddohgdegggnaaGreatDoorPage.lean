/- What is shown here, as far as 'sum_is': contracts of the program's functions, and the plain laws that they lean on; conditions: each theorem's own hypotheses. -/
import Derived.Test.YteddohgdegggnaaGreatDoorCol2
namespace Go.HR
/-- A number of four bytes, the lowest first. -/
def le4 (n : Nat) : List UInt8 := [UInt8.ofNat n, UInt8.ofNat (n / 256), UInt8.ofNat (n / 65536), UInt8.ofNat (n / 16777216)]
def crcTable : List Nat := [0x00000000, 0x1db71064, 0x3b6e20c8, 0x26d930ac, 0x76dc4190, 0x6b6b51f4, 0x4db26158, 0x5005713c, 0xedb88320, 0xf00f9344, 0xd6d6a3e8, 0xcb61b38c, 0x9b64c2b0, 0x86d3d2d4, 0xa00ae278, 0xbdbdf21c]
def crcHalf (c b : Nat) : Nat := crcTable.getD ((c ^^^ b) % 16) 0 ^^^ c / 16
def crcStep (c : Nat) (b : UInt8) : Nat := crcHalf (crcHalf c b.toNat) (b.toNat / 16)
def crcOf (l : List UInt8) : Nat := l.foldl crcStep 4294967295
def crc (l : List UInt8) : Nat := 4294967295 - crcOf l
/-- The table lies where it lies. -/
def TableAt (w : World) (g : Nat) : Prop := ∀ (i t : Nat), crcTable[i]? = some t → w.cell? ⟨g, i, none⟩ = some (.int .u32 t)
theorem half_lt {c b : Nat} (h : c < 4294967296) : crcHalf c b < 4294967296 := by
  have h1 : crcTable.getD ((c ^^^ b) % 16) 0 < 2 ^ 32 := by
    have : ∀ i : Fin 16, crcTable.getD i.val 0 < 2 ^ 32 := by decide
    exact this ⟨(c ^^^ b) % 16, Nat.mod_lt _ (by omega)⟩
  exact Nat.xor_lt_two_pow h1 (by omega)
theorem step_lt {c : Nat} (b : UInt8) (h : c < 4294967296) : crcStep c b < 4294967296 := half_lt (half_lt h)
theorem crcOf_lt (l : List UInt8) : crcOf l < 4294967296 := by
  have : ∀ (l : List UInt8) c, c < 4294967296 → l.foldl crcStep c < 4294967296 := by
    intro l
    induction l with
    | nil => intro c h; exact h
    | cons b l ih => intro c h; exact ih _ (step_lt b h)
  exact this l _ (by omega)
theorem xor_ones32 {a : Nat} (h : a < 4294967296) : a ^^^ 4294967295 = 4294967295 - a := by
  have e := congrArg BitVec.toNat (BitVec.xor_allOnes (x := BitVec.ofNat 32 a))
  rw [BitVec.toNat_xor, BitVec.toNat_not, BitVec.toNat_ofNat, BitVec.toNat_allOnes, Nat.mod_eq_of_lt h] at e
  exact e
theorem half_facts (c b : Nat) (hc : c < 4294967296) (hb : b < 4294967296) : ∃ i t d : Nat, i < 16 ∧ crcTable[i]? = some t ∧ bits .and .u32 (bits .xor .u32 (c : Int) (b : Int)) 15 = (i : Int) ∧
    bits .xor .u32 (t : Int) ((c : Int) / 16) = (d : Int) ∧ t < 4294967296 ∧ d < 4294967296 ∧ d = crcHalf c b := by
  have h0 : (c ^^^ b) % 16 < 16 := Nat.mod_lt _ (by omega)
  have hx : c ^^^ b < 2 ^ 32 := Nat.xor_lt_two_pow (by omega) (by omega)
  have ht : crcTable[(c ^^^ b) % 16]? = some (crcTable.getD ((c ^^^ b) % 16) 0) := by
    have : ∀ i : Fin 16, crcTable[i.val]? = some (crcTable.getD i.val 0) := by decide
    exact this ⟨_, h0⟩
  have ht2 : crcTable.getD ((c ^^^ b) % 16) 0 < 4294967296 := by
    have : ∀ i : Fin 16, crcTable.getD i.val 0 < 4294967296 := by decide
    exact this ⟨_, h0⟩
  refine ⟨_, _, crcHalf c b, h0, ht, ?_, ?_, ht2, half_lt hc, rfl⟩
  · rw [u32_xor_nat _ _ hc hb]
    have := u32_and_nat (c ^^^ b) 15 (by omega) (by omega)
    rw [show ((15 : Nat) : Int) = 15 from rfl, nat_mask4] at this
    exact this
  · have := u32_xor_nat (crcTable.getD ((c ^^^ b) % 16) 0) (c / 16) ht2 (by omega)
    rw [show (((c / 16 : Nat)) : Int) = (c : Int) / 16 from by omega] at this
    exact this
end Go.HR
namespace Go.Proofs.YteddohgdegggnaaGreatDoor
open Go.RowKit Go.HR
open Go.Proofs

/-- Cells that have just been laid. -/
theorem new_cells {w : World} {n : Nat} {T : TypeId} (xs : List Value) (cs : Array Value) (hc : cs = xs.toArray) (hl : xs.length = n) (hm : n ≤ maxLen) : NewRow T 1 w n xs (.slice (some ⟨w.heap.size, 0, none⟩) n n) (w.alloc (.cells cs T)) := by
  subst hc
  refine ⟨⟨by omega, .inr ⟨w.heap.size, n, xs.toArray, rfl, Nat.zero_le _, Go.heap_alloc_new w _, Nat.le_refl _, hm, by simp [hl], ?_⟩⟩, (Only.refl _ _).alloc _, fun k hk => ?_⟩
  · rw [← hl]; simp
  · simp [Value.ownBlock] at hk; omega

/-- A function that lays new bytes. -/
theorem four_is (n : Nat) (w : World) (hn : n < 4294967296) : Calls Tryz.prog 64 #[.int .u32 n] w (NewBytes w (le4 n)) := by
  go_enter Tryz.func64, Tryz.ntmps64
  go_wp2
  go_ret
  refine ⟨_, rfl, new_cells (by8 (le4 n)) _ ?_ (by simp [by8_length, le4]) (by simp [maxLen, le4])⟩
  simp only [by8, le4, List.map_cons, List.map_nil, UInt8.toNat_ofNat']
  have e1 : ((n % 2 ^ 8 : Nat) : Int) = (n : Int) % 256 := by omega
  have e2 : ((n / 256 % 2 ^ 8 : Nat) : Int) = (n : Int) / 256 % 256 := by omega
  have e3 : ((n / 65536 % 2 ^ 8 : Nat) : Int) = (n : Int) / 65536 % 256 := by omega
  have e4 : ((n / 16777216 % 2 ^ 8 : Nat) : Int) = (n : Int) / 16777216 := by omega
  rw [e1, e2, e3, e4]

theorem sum_is (v : Value) (l : List UInt8) (w : World) (h : Rd w v l.length (by8 l)) (hl : l.length ≤ 1099511627776) (ht : TableAt w 0) :
    Calls Tryz.prog 65 #[v] w fun e w' => e = .returned (.int .u32 (crc l)) ∧ w = w' := by
  obtain ⟨va, vc, rfl, hvl, hvm⟩ := h.shape
  go_enter Tryz.func65, Tryz.ntmps65
  go_wp2_with fail
  go_loop [3, 8] (fun c i => ∃ (k m : Nat), i = .int .i64 k ∧ c = .int .u32 m ∧ k ≤ l.length ∧ m < 4294967296 ∧ Hid (m = (l.take k).foldl crcStep 4294967295)) (fun _ i => l.length - (intOf i).toNat)
  case atStart => exact ⟨0, 4294967295, rfl, rfl, Nat.zero_le _, by omega, rfl⟩
  case round =>
    obtain ⟨k, m, rfl, rfl, hk, hm, HM⟩ := hrel
    by_cases hlt : k < l.length
    · obtain ⟨b, hb⟩ : ∃ b, l[k]? = some b := ⟨_, List.getElem?_eq_getElem hlt⟩
      rcases h with ⟨_, h0, _⟩ | ⟨g, off, cap, e, _, _, _, h4⟩
      · omega
      · obtain rfl : va = some ⟨g, off, none⟩ := by simp at e; exact e.1
        have hc := h4 k (.int .u8 b.toNat) (by simp [by8, hb])
        have hb256 : b.toNat < 256 := b.toNat_lt
        obtain ⟨i1, t1, c1, a1, a2, a3, a4, a5, a6, a7⟩ := half_facts m b.toNat hm (by omega)
        obtain ⟨i2, t2, c2, b1, b2, b3, b4, b5, b6, b7⟩ := half_facts c1 (b.toNat / 16) a6 (by omega)
        have ht1 := ht i1 t1 a2
        have ht2 := ht i2 t2 b2
        have x1 : bits .and .u32 (bits .xor .u32 (m : Int) (b.toNat : Int)) 15 = (i1 : Int) := a3
        have x2 : bits .and .u32 (bits .xor .u32 (c1 : Int) ((b.toNat : Int) / 16)) 15 = (i2 : Int) := by rw [show ((b.toNat : Int) / 16) = ((b.toNat / 16 : Nat) : Int) from by omega]; exact b3
        have hi1 : (i1 : Int) < 16 := by omega
        have hi2 : (i2 : Int) < 16 := by omega
        have HC : Hid (c2 = crcStep m b) := by rw [b7, a7]; rfl
        have HB : Hid (l[k]? = some b) := hb
        have HT : Hid (c2 < 4294967296) := b6
        clear a7 b7 a3 b3 ht hb b6 a2 b2
        go_wp2
        refine ⟨⟨k + 1, c2, by go_num, rfl, hlt, HT.out, ?_⟩, by simp [intOf]; omega⟩
        show c2 = _
        obtain ⟨hlt', hb'⟩ := List.getElem?_eq_some_iff.1 HB.out
        rw [HC.out, HM.out, List.take_succ_eq_append_getElem hlt', List.foldl_append, hb']
        rfl
    · obtain rfl : k = l.length := by omega
      go_wp2
      go_ret
      have e1 : bits .xor .u32 IntKind.u32.max (m : Int) = ((crc l : Nat) : Int) := by
        have e2 : (IntKind.u32.max : Int) = ((4294967295 : Nat) : Int) := by decide
        rw [e2, u32_xor_nat _ _ (by omega) hm, Nat.xor_comm, xor_ones32 hm]
        show ((4294967295 - m : Nat) : Int) = ((crc l : Nat) : Int)
        rw [crc, crcOf, HM.out, List.take_length]
      refine ⟨?_, rfl⟩
      rw [← e1]
      rfl

end Go.Proofs.YteddohgdegggnaaGreatDoor
