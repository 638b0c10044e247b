/- What is shown here, as far as 'change_is': contracts of the program's functions, and the plain laws that they lean on; conditions: each theorem's own hypotheses. -/
import Derived.Test.YteddohgdegggnaaGreatDoorRen
namespace Go.HR
/-- What an operation leaves that changes a file that is there. -/
def St.change (S : St) (t : List UInt8) (k : St → Nat → St) : Int × St :=
  if S.look t = 0 then (if has S.l t then (if S.begin.off then (9, S.begin) else (0, k S.begin (pos S.l t))) else (5, S)) else (S.look t, S)
theorem St.begin_l (S : St) : S.begin.l = S.l := by unfold St.begin; split <;> rfl
theorem St.begin_room (S : St) : S.begin.room = S.room := by unfold St.begin; split <;> rfl
end Go.HR
namespace Go.Proofs.YteddohgdegggnaaGreatDoor
open Go.RowKit Go.HR
open Go.Proofs

theorem StoreIs.did {w w' : World} {b : Nat} {S : St} {lv : Value} {fs : List FV} (h : StoreIs w b S lv fs) (hx : Ext w w') : Did w b (foot b lv fs) S w' :=
  ⟨_, ⟨lv, fs, h.keep hx fun _ _ => id, rfl⟩, hx.mono fun _ _ h => h.elim, fun _ hk => .inl hk⟩
/-- Behind a part that touched nothing but the head. -/
theorem Did.after {w w1 w2 : World} {b : Nat} {S : St} {F : List Nat} (h : Did w1 b F S w2) (ho : Only (fun k => k ∈ F) w w1) : Did w b F S w2 := by
  obtain ⟨F', a1, a2, a3⟩ := h
  have := ho.size
  exact ⟨F', a1, ho.trans a2 fun _ _ h => h, fun k hk => (a3 k hk).imp id fun h => by omega⟩
theorem Did.ext {w w1 w2 : World} {b : Nat} {S : St} {F : List Nat} (h : Did w b F S w1) (hx : Ext w1 w2) : Did w b F S w2 := by
  obtain ⟨F', a1, a2, a3⟩ := h
  exact ⟨F', a1.ext hx, a2.thenExt hx, a3⟩

set_option maxRecDepth 100000 in
set_option maxHeartbeats 4000000 in
theorem change_is {b : Nat} {S : St} {lv : Value} {fs : List FV} (tg : ByteArray) (K : FuncId) (caps : Array Value) (k : St → Nat → St) (w : World) (h : StoreIs w b S lv fs) (ha : S.armed ≤ 4611686018427387904) (hs : tg.size ≤ 4611686018427387904)
    (hC : (K = 80 ∧ ∃ c, caps = #[c]) ∨ (K = 22 ∧ ∃ c, caps = #[c]) ∨ (K = 66 ∧ ∃ c d, caps = #[c, d]))
    (hK : ∀ w1 i f, StoreIs w1 b S.begin lv fs → Only (fun q => q = b) w w1 → fs[i]? = some f →
      Calls Tryz.prog K (#[.int .i64 i] ++ caps) w1 fun e w2 => e = .returned (.tuple #[]) ∧ Did w1 b (foot b lv fs) (k S.begin i) w2) :
    Calls Tryz.prog 21 #[.pointer (some ⟨b, 0, none⟩), .string tg, .func (.func K) #[] caps] w
      fun e w' => e = .returned (.int .i64 (S.change tg.toList k).1) ∧ Did w b (foot b lv fs) (S.change tg.toList k).2 w' := by
  obtain ⟨q, hq⟩ : ∃ q, q = S.look tg.toList := ⟨_, rfl⟩
  have HQ : Hid (q = S.look tg.toList) := hq
  have H : Hid (StoreIs w b S lv fs) := h
  go_enter Tryz.func21, Tryz.ntmps21
  go_wp2_with fail
  refine (look_is tg w hs H.out).mono ?_
  rintro e w' ⟨rfl, rfl⟩
  rw [← hq]
  by_cases h0 : q = 0
  · subst h0
    clear hq
    go_wp2_with fail
    refine (find_is tg w H.out).mono ?_
    rintro e w1 ⟨rfl, hx1⟩
    have HX1 : Hid (Ext w w1) := hx1
    obtain ⟨r, hr⟩ : ∃ r, r = pos (fs.map (·.g)) tg.toList := ⟨_, rfl⟩
    have HR : Hid (r = pos (fs.map (·.g)) tg.toList) := hr
    rw [← hr]
    obtain ⟨u, hu⟩ : ∃ u, u = has (fs.map (·.g)) tg.toList := ⟨_, rfl⟩
    have HU : Hid (u = has (fs.map (·.g)) tg.toList) := hu
    rw [← hu]
    clear hr hu hx1
    cases u
    · go_wp2
      go_ret
      have hc : S.change tg.toList k = (5, S) := by simp only [St.change, ← HQ.out, H.out.files, ← HU.out]; rfl
      rw [hc]
      exact ⟨rfl, H.out.did HX1.out⟩
    · obtain ⟨f, hf, _⟩ := H.out.found HU.out.symm
      rw [← HR.out] at hf
      have HF : Hid (fs[r]? = some f) := hf
      clear hf
      go_wp2_with fail
      refine (begin_is w1 (H.out.keep HX1.out fun _ _ => id) ha).mono ?_
      rintro e w2 ⟨rfl, hb2, ho2⟩
      have HB2 : Hid (StoreIs w2 b S.begin lv fs) := hb2
      have HO2 : Hid (Only (fun q => q = b) w w2) := (HX1.out.mono fun _ _ h => h.elim).trans ho2 fun _ _ h => h
      obtain ⟨o, ho⟩ : ∃ o, o = S.begin.off := ⟨_, rfl⟩
      have HOF : Hid (o = S.begin.off) := ho
      rw [← ho]
      clear ho hb2 ho2
      cases o
      · go_wp2_with fail
        have hk3 := hK w2 r f HB2.out HO2.out HF.out
        clear hK
        rcases hC with ⟨rfl, c, rfl⟩ | ⟨rfl, c, rfl⟩ | ⟨rfl, c, d, rfl⟩
        all_goals
          simp only [List.append_toArray, List.cons_append, List.nil_append] at hk3
          go_wp2_with fail
          refine hk3.mono ?_
          rintro e w3 ⟨rfl, hd3⟩
          go_wp2
          go_ret
          have hc : S.change tg.toList k = (0, k S.begin r) := by simp only [St.change, ← HQ.out, H.out.files, ← HU.out, ← HOF.out, HR.out]; rfl
          rw [hc]
          exact ⟨rfl, hd3.after (HO2.out.mono fun q _ hq => hq ▸ foot_mem_b _ _ _)⟩
      · go_wp2
        go_ret
        have hc : S.change tg.toList k = (9, S.begin) := by simp only [St.change, ← HQ.out, H.out.files, ← HU.out, ← HOF.out]; rfl
        rw [hc]
        exact ⟨rfl, (HB2.out.did (Only.refl _ _)).after (HO2.out.mono fun q _ hq => hq ▸ foot_mem_b _ _ _)⟩
  · have HN : Hid (¬ q = 0) := h0
    have hq3 : q = 1 ∨ q = 9 := by rcases look_cases S tg.toList with h | h | h <;> omega
    have hc : S.change tg.toList k = (q, S) := by rw [HQ.out]; simp only [St.change]; rw [if_neg (by rw [← HQ.out]; exact h0)]
    have HC : Hid (S.change tg.toList k = (q, S)) := hc
    clear hc h0
    rcases hq3 with rfl | rfl
    all_goals
      clear hq
      go_wp2
      go_ret
      rw [HC.out]
      exact ⟨rfl, H.out.did (Only.refl _ _)⟩

end Go.Proofs.YteddohgdegggnaaGreatDoor
