/- Library functions and helpers on slices of integers that only read: Index, Contains, Equal, l1Find, l1Same; unit. No condition but what each theorem names. -/
import Derived.Test.YteepnimmbofmlaaTbl
import Derived.Test.YteepnimmbofmlaaAlgW
namespace Go.Proofs.Yteepnimmbofmlaa
set_option linter.unusedVariables false
set_option linter.unusedSimpArgs false
set_option maxRecDepth 20000
open Go.RowKit
set_option maxHeartbeats 1000000
theorem l1Same_any {B1 B2 : Nat} (A1 A2 : Option Addr) (n1 c1 n2 c2 : Nat) (xs ys : List Int) (w : World) (h1 : RdI w B1 A1 n1 xs) (h2 : RdI w B2 A2 n2 ys) :
    Calls Try.prog 110 #[.slice A1 n1 c1, .slice A2 n2 c2] w (Qt (.bool (xs == ys)) w) := by
  obtain ⟨hl1, hm1, hc1⟩ := h1
  obtain ⟨hl2, hm2, hc2⟩ := h2
  unfold maxLen at hm1 hm2
  by_cases hne : n1 = n2
  · subst hne
    rcases Nat.eq_zero_or_pos n1 with h0 | hpos
    · subst h0
      have hx : xs = [] := List.eq_nil_of_length_eq_zero hl1
      have hy : ys = [] := List.eq_nil_of_length_eq_zero hl2
      subst hx hy
      go_enter Try.func110, Try.ntmps110
      go_wp2
      go_loop [5] (fun i => i = .int .i64 0) (fun _ => 0)
      case atStart => rfl
      case round =>
        obtain rfl := hrel
        go_wp2
        go_ret
        exact ⟨rfl, SameD.refl _⟩
    · obtain ⟨b1, o1, rfl, _, hx⟩ := hc1 hpos
      obtain ⟨b2, o2, rfl, _, hy⟩ := hc2 hpos
      have HL := Lib.hid (And.intro hl1 hl2)
      clear hc1 hc2 hl1 hl2
      go_enter Try.func110, Try.ntmps110
      go_wp2
      go_loopw [5] (fun i wr => ∃ k : Nat, k ≤ n1 ∧ i = .int .i64 k ∧ Hid (xs.take k = ys.take k) ∧ SameD w wr) (fun i _ => n1 - (intOf i).toNat)
      case atStart => exact ⟨0, by omega, rfl, rfl, SameD.refl _⟩
      case round =>
        obtain ⟨k, hk, rfl, he, d, rfl⟩ := hrel
        by_cases hlt : k < n1
        · have hxk := hx k hlt
          have hyk := hy k hlt
          by_cases hz : gI xs k = gI ys k
          · have hz' : (gI xs k != gI ys k) = false := by simpa using hz
            have Hn := Lib.hid (show xs.take (k + 1) = ys.take (k + 1) by
              have a1 := HL.out.1
              have a2 := HL.out.2
              have e1 := he.out
              rw [take_gI (by omega), take_gI (by omega), e1, hz])
            clear hz hx hy
            go_wp2
            go_quiet (fail)
            go_wp2
            go_roundw
            case rel => exact ⟨k + 1, by omega, by go_num, Hn, (by first | exact SameD.refl _ | exact ⟨_, rfl⟩ | exact SameD.two _ _ _ | exact (SameD.two _ _ _).drewN _)⟩
            case measure => simp [intOf]; omega
          · have hz' : (gI xs k != gI ys k) = true := by simpa using hz
            have Hn := Lib.hid (show (xs == ys) = false by
              rw [beq_eq_false_iff_ne]; intro e; exact hz (by rw [e]))
            clear hz hx hy
            go_wp2
            go_quiet (fail)
            go_wp2
            go_ret
            exact ⟨by rw [Hn.out]; rfl, (by first | exact SameD.refl _ | exact ⟨_, rfl⟩ | exact SameD.two _ _ _ | exact (SameD.two _ _ _).drewN _)⟩
        · have hkn : k = n1 := by omega
          have Hn := Lib.hid (show (xs == ys) = true by
            have a1 := HL.out.1
            have a2 := HL.out.2
            have e1 := he.out
            rw [List.take_of_length_le (by omega), List.take_of_length_le (by omega)] at e1
            rw [e1]; simp)
          clear hx hy
          subst hkn
          go_wp2
          go_ret
          exact ⟨by rw [Hn.out]; rfl, (by first | exact SameD.refl _ | exact ⟨_, rfl⟩ | exact SameD.two _ _ _ | exact (SameD.two _ _ _).drewN _)⟩
  · have hb : ((n1 : Int) != (n2 : Int)) = true := by simp; omega
    have Hn := Lib.hid (show (xs == ys) = false by
      rw [beq_eq_false_iff_ne]; intro e; subst e; omega)
    clear hc1 hc2 hl1 hl2
    go_enter Try.func110, Try.ntmps110
    go_wp2
    go_ret
    exact ⟨by rw [Hn.out]; rfl, SameD.refl _⟩
theorem slEqual_any {B1 B2 : Nat} (A1 A2 : Option Addr) (n1 c1 n2 c2 : Nat) (xs ys : List Int) (w : World) (h1 : RdI w B1 A1 n1 xs) (h2 : RdI w B2 A2 n2 ys) :
    Calls Try.prog 109 #[.slice A1 n1 c1, .slice A2 n2 c2] w (Qt (.bool (xs == ys)) w) := by
  obtain ⟨hl1, hm1, hc1⟩ := h1
  obtain ⟨hl2, hm2, hc2⟩ := h2
  unfold maxLen at hm1 hm2
  by_cases hne : n1 = n2
  · subst hne
    rcases Nat.eq_zero_or_pos n1 with h0 | hpos
    · subst h0
      have hx : xs = [] := List.eq_nil_of_length_eq_zero hl1
      have hy : ys = [] := List.eq_nil_of_length_eq_zero hl2
      subst hx hy
      go_enter Try.func109, Try.ntmps109
      go_wp2
      go_loop [13] (fun i => i = .int .i64 0) (fun _ => 0)
      case atStart => rfl
      case round =>
        obtain rfl := hrel
        go_wp2
        go_ret
        exact ⟨rfl, SameD.refl _⟩
    · obtain ⟨b1, o1, rfl, _, hx⟩ := hc1 hpos
      obtain ⟨b2, o2, rfl, _, hy⟩ := hc2 hpos
      have HL := Lib.hid (And.intro hl1 hl2)
      clear hc1 hc2 hl1 hl2
      go_enter Try.func109, Try.ntmps109
      go_wp2
      go_loopw [13] (fun i wr => ∃ k : Nat, k ≤ n1 ∧ i = .int .i64 k ∧ Hid (xs.take k = ys.take k) ∧ SameD w wr) (fun i _ => n1 - (intOf i).toNat)
      case atStart => exact ⟨0, by omega, rfl, rfl, SameD.refl _⟩
      case round =>
        obtain ⟨k, hk, rfl, he, d, rfl⟩ := hrel
        by_cases hlt : k < n1
        · have hxk := hx k hlt
          have hyk := hy k hlt
          by_cases hz : gI xs k = gI ys k
          · have hz' : (gI xs k != gI ys k) = false := by simpa using hz
            have Hn := Lib.hid (show xs.take (k + 1) = ys.take (k + 1) by
              have a1 := HL.out.1
              have a2 := HL.out.2
              have e1 := he.out
              rw [take_gI (by omega), take_gI (by omega), e1, hz])
            clear hz hx hy
            go_wp2
            go_quiet (fail)
            go_wp2
            go_roundw
            case rel => exact ⟨k + 1, by omega, by go_num, Hn, (by first | exact SameD.refl _ | exact ⟨_, rfl⟩ | exact SameD.two _ _ _ | exact (SameD.two _ _ _).drewN _)⟩
            case measure => simp [intOf]; omega
          · have hz' : (gI xs k != gI ys k) = true := by simpa using hz
            have Hn := Lib.hid (show (xs == ys) = false by
              rw [beq_eq_false_iff_ne]; intro e; exact hz (by rw [e]))
            clear hz hx hy
            go_wp2
            go_quiet (fail)
            go_wp2
            go_ret
            exact ⟨by rw [Hn.out]; rfl, (by first | exact SameD.refl _ | exact ⟨_, rfl⟩ | exact SameD.two _ _ _ | exact (SameD.two _ _ _).drewN _)⟩
        · have hkn : k = n1 := by omega
          have Hn := Lib.hid (show (xs == ys) = true by
            have a1 := HL.out.1
            have a2 := HL.out.2
            have e1 := he.out
            rw [List.take_of_length_le (by omega), List.take_of_length_le (by omega)] at e1
            rw [e1]; simp)
          clear hx hy
          subst hkn
          go_wp2
          go_ret
          exact ⟨by rw [Hn.out]; rfl, (by first | exact SameD.refl _ | exact ⟨_, rfl⟩ | exact SameD.two _ _ _ | exact (SameD.two _ _ _).drewN _)⟩
  · have hb : ((n1 : Int) != (n2 : Int)) = true := by simp; omega
    have Hn := Lib.hid (show (xs == ys) = false by
      rw [beq_eq_false_iff_ne]; intro e; subst e; omega)
    clear hc1 hc2 hl1 hl2
    go_enter Try.func109, Try.ntmps109
    go_wp2
    go_ret
    exact ⟨by rw [Hn.out]; rfl, SameD.refl _⟩
theorem slIndex_any {B : Nat} (A : Option Addr) (n c : Nat) (x : Int) (xs : List Int) (w : World) (h : RdI w B A n xs) :
    Calls Try.prog 96 #[.slice A n c, .int .i64 x] w fun e w' => e = .returned (.int .i64 (idxI (fun y => x == y) xs)) ∧ w = w' := by
  obtain ⟨hl1, hm1, hc1⟩ := h
  unfold maxLen at hm1
  rcases Nat.eq_zero_or_pos n with h0 | hpos
  · subst h0
    have hx : xs = [] := List.eq_nil_of_length_eq_zero hl1
    subst hx
    have HT := Lib.hid (show idxI (fun y => x == y) [] = -1 from rfl)
    go_enter Try.func96, Try.ntmps96
    go_wp2
    go_loop [8] (fun i => i = .int .i64 0) (fun _ => 0)
    case atStart => rfl
    case round =>
      obtain rfl := hrel
      go_wp2
      go_ret
      exact ⟨by rw [HT.out]; rfl, rfl⟩
  · obtain ⟨b, o, rfl, _, hx⟩ := hc1 hpos
    have HL := Lib.hid hl1
    clear hc1 hl1
    go_enter Try.func96, Try.ntmps96
    go_wp2
    go_loop [8] (fun i => ∃ k : Nat, k ≤ n ∧ i = .int .i64 k ∧ Hid (∀ j, j < k → (fun y => x == y) (gI xs j) = false)) (fun i => n - (intOf i).toNat)
    case atStart => exact ⟨0, by omega, rfl, fun j hj => by omega⟩
    case round =>
      obtain ⟨k, hk, rfl, he⟩ := hrel
      by_cases hlt : k < n
      · have hxk := hx k hlt
        have hL : k < xs.length := by have := HL.out; omega
        clear hx
        rcases hfx : (x == gI xs k) with _ | _
        · have HF := Lib.hid hfx
          go_wp2
          go_round
          case rel => exact ⟨k + 1, by omega, by go_num, fun j hj => by
            by_cases hjk : j = k
            · subst hjk; exact HF.out
            · exact he.out j (by omega)⟩
          case measure => simp [intOf]; omega
        · have HI := Lib.hid (idxI_hit (f := fun y => x == y) hL hfx he.out)
          go_wp2
          go_ret
          exact ⟨by rw [HI.out]; rfl, rfl⟩
      · have HT := Lib.hid (idxI_miss (f := fun y => x == y) (xs := xs) (fun j hj => he.out j (by have := HL.out; omega)))
        clear hx
        go_wp2
        go_ret
        exact ⟨by rw [HT.out]; rfl, rfl⟩
theorem l1Find_any {B : Nat} (A : Option Addr) (n c : Nat) (x : Int) (xs : List Int) (w : World) (h : RdI w B A n xs) :
    Calls Try.prog 70 #[.slice A n c, .int .i64 x] w fun e w' => e = .returned (.int .i64 (idxI (fun y => y == x) xs)) ∧ w = w' := by
  obtain ⟨hl1, hm1, hc1⟩ := h
  unfold maxLen at hm1
  rcases Nat.eq_zero_or_pos n with h0 | hpos
  · subst h0
    have hx : xs = [] := List.eq_nil_of_length_eq_zero hl1
    subst hx
    have HT := Lib.hid (show idxI (fun y => y == x) [] = -1 from rfl)
    go_enter Try.func70, Try.ntmps70
    go_wp2
    go_loop [5] (fun i => i = .int .i64 0) (fun _ => 0)
    case atStart => rfl
    case round =>
      obtain rfl := hrel
      go_wp2
      go_ret
      exact ⟨by rw [HT.out]; rfl, rfl⟩
  · obtain ⟨b, o, rfl, _, hx⟩ := hc1 hpos
    have HL := Lib.hid hl1
    clear hc1 hl1
    go_enter Try.func70, Try.ntmps70
    go_wp2
    go_loop [5] (fun i => ∃ k : Nat, k ≤ n ∧ i = .int .i64 k ∧ Hid (∀ j, j < k → (fun y => y == x) (gI xs j) = false)) (fun i => n - (intOf i).toNat)
    case atStart => exact ⟨0, by omega, rfl, fun j hj => by omega⟩
    case round =>
      obtain ⟨k, hk, rfl, he⟩ := hrel
      by_cases hlt : k < n
      · have hxk := hx k hlt
        have hL : k < xs.length := by have := HL.out; omega
        clear hx
        rcases hfx : (gI xs k == x) with _ | _
        · have HF := Lib.hid hfx
          go_wp2
          go_round
          case rel => exact ⟨k + 1, by omega, by go_num, fun j hj => by
            by_cases hjk : j = k
            · subst hjk; exact HF.out
            · exact he.out j (by omega)⟩
          case measure => simp [intOf]; omega
        · have HI := Lib.hid (idxI_hit (f := fun y => y == x) hL hfx he.out)
          go_wp2
          go_ret
          exact ⟨by rw [HI.out]; rfl, rfl⟩
      · have HT := Lib.hid (idxI_miss (f := fun y => y == x) (xs := xs) (fun j hj => he.out j (by have := HL.out; omega)))
        clear hx
        go_wp2
        go_ret
        exact ⟨by rw [HT.out]; rfl, rfl⟩
theorem slContains_any {B : Nat} (A : Option Addr) (n c : Nat) (x : Int) (xs : List Int) (w : World) (h : RdI w B A n xs) :
    Calls Try.prog 77 #[.slice A n c, .int .i64 x] w fun e w' => e = .returned (.bool (xs.any fun y => x == y)) ∧ w = w' := by
  have HI := Lib.hid (idxI_neg (f := fun y => x == y) (xs := xs))
  go_enter Try.func77, Try.ntmps77
  go_wp2_with (go_at_call 96; refine (slIndex_any A n c x xs _ h).mono ?_; rintro e w' ⟨rfl, rfl⟩)
  go_ret
  exact ⟨by rw [← HI.out]; rfl, rfl⟩
/-- the vector of length n with a 1 at place i -/
def unitV (n i : Nat) : List Int := (List.replicate n 0).set i 1
theorem unitV_len (n i : Nat) : (unitV n i).length = n := by simp [unitV]
theorem unitV_get {n i : Nat} (hi : i < n) (j : Nat) : gI (unitV n i) j = if j = i then 1 else 0 := by
  unfold unitV
  rw [gI_set _ _ _ _ (by simpa using hi)]
  split
  · rfl
  · unfold gI; rw [List.getD_eq_getElem?_getD, List.getElem?_replicate]; split <;> rfl
theorem unit_any (n i : Nat) (w : World) (hn : n ≤ 1000000) (hi : i < n) :
    Calls Try.prog 65 #[.int .i64 n, .int .i64 i] w (RetI (unitV n i) w) := by
  go_enter Try.func65, Try.ntmps65
  go_wp2_with (at_make; refine wpList_mkI _ rfl _ _ 22 rfl 3 Try.underlying22 Try.infoI .i64 .i64 _ _ n rfl rfl (by omega) (by omega) (by omega) ?_; intro w1 ho hb hs; obtain ⟨hcl, hfz⟩ := ho.at_ hi; rw [Nat.zero_add] at hcl hfz)
  go_ret
  exact ⟨_, _, _, rfl, Hd.self (by unfold maxLen; omega), hb.setCell (by simp) _, by have := ho.store (v := 1) hi; unfold unitV; simpa using this⟩
end Go.Proofs.Yteepnimmbofmlaa
