/- The draws of FnInts: the cursor's beginning, DrawInts; laws.ints, laws.at0, laws.big. No condition but what each theorem names. -/
import Derived.Test.YtfhijaldecbahaaDoorCur
import Derived.Test.YtfhijaldecbahaaDoorRedW
namespace Go.Proofs.YtfhijaldecbahaaDoor
set_option linter.unusedVariables false
set_option linter.unusedSimpArgs false
set_option maxRecDepth 20000
open Go Go.RowKit
set_option maxHeartbeats 4000000
/-- the cursor's beginning -/
def RetNew (w : World) (e : Ending) (w' : World) : Prop := ∃ g, e = .returned (.pointer (some ⟨g, 0, none⟩)) ∧ w.heap.size ≤ g ∧ Cur w' g ∧ Below w.heap.size w w'
theorem newCur_any {B : Nat} (A : Option Addr) (n k : Nat) (w : World) (h : RdB w B A n) (hB : B ≤ w.heap.size) : Calls Tryd.prog 33 #[.slice A n k] w (RetNew w) := by
  have hm := h.1
  unfold maxLen at hm
  go_enter Tryd.func33, Tryd.ntmps33
  go_wp2_with fail
  go_loopw [3, 4] (fun hh ii wr => ∃ (j : Nat) (x : Int), j ≤ n ∧ ii = .int .i64 (j : Int) ∧ hh = .int .i64 x ∧ SameD w wr) (fun _ ii _ => n - (intOf ii).toNat)
  case atStart => exact ⟨0, _, by omega, rfl, rfl, SameD.refl _⟩
  case round =>
    obtain ⟨j, x, hj, rfl, rfl, dd, rfl⟩ := hrel
    by_cases hlt : j < n
    · obtain ⟨b, o, rfl, hbB, hc⟩ := h.2 (by omega)
      obtain ⟨y, hy0, hy1, hyc⟩ := hc j hlt
      clear hc
      by_cases h4 : j < 4000
      · go_wp2
        all_goals
          go_roundw
          case rel => exact ⟨j + 1, _, by omega, by go_num, rfl, ⟨_, rfl⟩⟩
          case measure => simp [intOf]; omega
      · go_wp2
        go_ret
        exact ⟨w.heap.size, rfl, Nat.le_refl _, ⟨some ⟨b, o, none⟩, n, k, 0, x, Box.new (w.drewN dd) _ _, (h.up hB).below ((below_drewN (Below.refl _ _) dd).alloc (Nat.le_refl _) _) (Nat.le_refl _), by omega⟩, (below_drewN (Below.refl _ _) dd).alloc (Nat.le_refl _) _⟩
    · go_wp2
      go_ret
      exact ⟨w.heap.size, rfl, Nat.le_refl _, ⟨A, n, k, 0, x, Box.new (w.drewN dd) _ _, (h.up hB).below ((below_drewN (Below.refl _ _) dd).alloc (Nat.le_refl _) _) (Nat.le_refl _), by omega⟩, (below_drewN (Below.refl _ _) dd).alloc (Nat.le_refl _) _⟩
theorem push_cur {g j : Nat} {w1 w2 w5 : World} {v : Value} {z : Int} {T : TypeId} {xs : List Value} (hC2 : Cur w2 g) (hG : Chg g (g + 1) w1 w2) (hgl : g < w1.heap.size) (hO : w2.ownsRow w1.heap.size 3 1 v j xs)
    (hg5 : (w2.alloc (.cells #[.int .i64 z] T)).grownBy w5 v.ownBlock) : Cur w5 g ∧ Chg g (g + 1) w1 w5 := by
  have hb5 := own_blk hO
  have hCC := chg_grown hG hg5 hb5
  obtain ⟨A', n', k', i', x', hb', hr', hi'⟩ := hC2
  have hkeep : ∀ k, k < w2.heap.size → v.ownBlock ≠ some k → w5.heap[k]? = w2.heap[k]? := fun k hk hne => by
    rw [hg5.block k (by rw [World.size_alloc]; omega) (fun e => hne e.symm), Below.heap_alloc _ _ _ hk]
  exact ⟨⟨A', n', k', i', x', hb'.keep (hkeep g hb'.lt fun e => by have := hb5 g e; omega), hr'.keep fun b o hlt hs => World.cell?_of_block (hkeep b hs fun e => by have := hb5 b e; omega), hi'⟩, hCC⟩
theorem RdI.six (w : World) (a b c d e f : Int) (T : TypeId) : RdI (w.alloc (.cells #[.int .i64 a, .int .i64 b, .int .i64 c, .int .i64 d, .int .i64 e, .int .i64 f] T)) (w.heap.size + 1) (some ⟨w.heap.size, 0, none⟩) 6 [a, b, c, d, e, f] :=
  ⟨rfl, by unfold maxLen; omega, fun _ => ⟨_, _, rfl, by omega, fun j hj => by
    rw [Nat.zero_add]
    refine (Box.new w _ _).cell ?_
    match j, hj with
    | 0, _ => rfl
    | 1, _ => rfl
    | 2, _ => rfl
    | 3, _ => rfl
    | 4, _ => rfl
    | 5, _ => rfl⟩⟩
/-- numbers of at most nine digits -/
def nineL (xs : List Int) : Prop := ∀ x ∈ xs, -999999999 ≤ x ∧ x ≤ 999999999
theorem nineL_snoc {xs : List Int} {y : Int} (h : nineL xs) (hy : -999999999 ≤ y ∧ y ≤ 999999999) : nineL (xs ++ [y]) := by
  intro x hx
  rcases List.mem_append.1 hx with e | e
  · exact h x e
  · obtain rfl : x = y := by simpa using e
    exact hy
/-- the numbers that are drawn -/
def DrI (w : World) (e : Ending) (w' : World) : Prop := ∃ (xs : List Int) (A : Option Addr) (n k : Nat), e = .returned (.slice A n k) ∧ n ≤ 6 ∧ nineL xs ∧ Hd A n k ∧ Below w.heap.size w w' ∧ OwI w' w.heap.size w'.heap.size A n xs
theorem drawInts_any {B : Nat} (A : Option Addr) (n k : Nat) (w : World) (h : RdB w B A n) (hB : B ≤ w.heap.size) : Calls Tryd.prog 14 #[.slice A n k] w (DrI w) := by
  go_enter Tryd.func14, Tryd.ntmps14
  go_wp2_with fail
  refine (newCur_any A n k w h hB).mono ?_
  rintro e w1 ⟨g, rfl, hg, hC1, hb1⟩
  have hs1 := hb1.size
  have hgl := hC1.lt
  have hO := own_emp w1 3 rfl
  have hC := hC1.alloc (.cells #[] 3)
  have hGa : Chg g (g + 1) w1 (w1.alloc (.cells #[] 3)) := (Chg.refl _ _ _).alloc _
  clear h
  go_wp2_with fail
  refine (l1Below_any 6 _ hC (by omega)).mono ?_
  rintro e w2 ⟨m, ⟨hm0, hm1, -⟩, rfl, hC2, hG2⟩
  obtain ⟨M, rfl⟩ := Int.eq_ofNat_of_zero_le hm0
  have hM : M < 6 := by have := hm1 (by omega); omega
  have hO2 := own_keep hO fun b h1 h2 => hG2.block b h2 (.inr (by omega))
  have hG := hGa.trans hG2
  clear hO hC hGa hG2 hm1 hm0 hC1
  go_wp2_with fail
  go_loopw [4, 6] (fun v ii wr => ∃ (j : Nat) (xs : List Int), j ≤ M ∧ ii = .int .i64 (j : Int) ∧ xs.length = j ∧ nineL xs ∧ Cur wr g ∧ Chg g (g + 1) w1 wr ∧ wr.ownsRow w1.heap.size 3 1 v j (xs.map (Value.int .i64))) (fun _ ii _ => M - (intOf ii).toNat)
  case atStart => exact ⟨0, [], by omega, rfl, rfl, (by intro x hx; cases hx), hC2, hG, hO2⟩
  case round =>
    clear hO2 hC2 hG
    obtain ⟨j, xs, hj, rfl, hxl, hxr, hC, hG, hO⟩ := hrel
    have hsz := hG.size
    have HXL := Lib.hid hxl
    have HXR := Lib.hid hxr
    clear hxl hxr
    by_cases hlt2 : j < M
    · go_wp2_with fail
      refine (l1Below_any 2000 wr hC (by omega)).mono ?_
      rintro e w3 ⟨y, ⟨hy0, hy1, -⟩, rfl, hC3, hG3⟩
      have hy1 := hy1 (by omega)
      have hs3 := hG3.size
      go_wp2_with fail
      refine (l1Once_any 6 w3 hC3 (by omega)).mono ?_
      rintro e w4 ⟨bb, rfl, hC4, hG4⟩
      have hs4 := hG4.size
      have hO4 := own_keep hO fun b h1 h2 => ((hG3.trans hG4).block b h2 (.inr (by omega)))
      have hG4 := (hG.trans hG3).trans hG4
      clear hO hC hC3 hG hG3
      rcases bb with _ | _
      · have hRy := RdI.one w4 (y - 1000) 3
        have hoy := own_keep (w' := w4.alloc (.cells #[.int .i64 (y - 1000)] 3)) hO4 fun b _ h2 => Below.heap_alloc _ _ _ h2
        go_wp2_with (at_builtin; refine wpList_apI (v := u4) (w := w4.alloc (.cells #[.int .i64 (y - 1000)] 3)) (lo := w1.heap.size) (n := j) (xs := xs) (ys := [y - 1000]) (m := 1) rfl (.tmp 26) (.tmp 28) rfl rfl hoy rfl hRy (Hd.self (by unfold maxLen; omega)) (by omega) (by simp; omega) ?_; intro v2 w7 ho2 hg2 hv2)
        obtain ⟨hC7, hG7⟩ := push_cur hC4 hG4 hgl hO4 hg2
        clear hoy hO4 hg2 hv2
        go_wp2
        go_roundw
        case rel => exact ⟨j + 1, xs ++ [y - 1000], by omega, by go_num, by simp [HXL.out], nineL_snoc HXR.out (by omega), hC7, hG7, ho2⟩
        case measure => simp [intOf]; omega
      · have hR6 := RdI.six w4 0 7 (-99999999) 999999999 100000000 (-1) 3
        have hC5 := hC4.alloc (.cells #[.int .i64 0, .int .i64 7, .int .i64 (-99999999), .int .i64 999999999, .int .i64 100000000, .int .i64 (-1)] 3)
        have hG5 := hG4.alloc (.cells #[.int .i64 0, .int .i64 7, .int .i64 (-99999999), .int .i64 999999999, .int .i64 100000000, .int .i64 (-1)] 3)
        have hO5 := own_keep (w' := w4.alloc (.cells #[.int .i64 0, .int .i64 7, .int .i64 (-99999999), .int .i64 999999999, .int .i64 100000000, .int .i64 (-1)] 3)) hO4 fun b _ h2 => Below.heap_alloc _ _ _ h2
        have hgl4 := hC4.lt
        clear hC4 hG4 hO4
        go_wp2_with fail
        refine (l1PickInt_any _ 6 6 _ _ hC5 hR6 (.inr ⟨_, _, rfl, hgl4⟩) (by omega) (by omega)).mono ?_
        rintro e w6 ⟨z, ⟨q, hq, hz⟩, rfl, hC6, hG6⟩
        have hs6 := hG6.size
        rw [World.size_alloc] at hs6
        have hz9 : -999999999 ≤ z ∧ z ≤ 999999999 := by
          rw [hz]
          match q, hq with
          | 0, _ => decide
          | 1, _ => decide
          | 2, _ => decide
          | 3, _ => decide
          | 4, _ => decide
          | 5, _ => decide
        have HZ := Lib.hid hz9
        have hO6 := own_keep hO5 fun b h1 h2 => hG6.block b h2 (.inr (by omega))
        have hG6 := hG5.trans hG6
        clear hO5 hG5 hC5 hR6 hz hz9
        have hRy := RdI.one w6 z 3
        have hoy := own_keep (w' := w6.alloc (.cells #[.int .i64 z] 3)) hO6 fun b _ h2 => Below.heap_alloc _ _ _ h2
        go_wp2_with (at_builtin; refine wpList_apI (v := u4) (w := w6.alloc (.cells #[.int .i64 z] 3)) (lo := w1.heap.size) (n := j) (xs := xs) (ys := [z]) (m := 1) rfl (.tmp 26) (.tmp 28) rfl rfl hoy rfl hRy (Hd.self (by unfold maxLen; omega)) (by omega) (by simp; omega) ?_; intro v2 w7 ho2 hg2 hv2)
        obtain ⟨hC7, hG7⟩ := push_cur hC6 hG6 hgl hO6 hg2
        clear hoy hO6 hg2 hv2
        go_wp2
        go_roundw
        case rel => exact ⟨j + 1, xs ++ [z], by omega, by go_num, by simp [HXL.out], nineL_snoc HXR.out HZ.out, hC7, hG7, ho2⟩
        case measure => simp [intOf]; omega
    · obtain rfl : j = M := by omega
      obtain ⟨A, k, rfl, hd⟩ := own_hd hO
      have hb2 := hG.below (by omega : g ≤ w1.heap.size)
      have hq2 : Below w.heap.size w wr := hb1.trans (hb2.mono (by omega))
      go_wp2
      go_ret
      exact ⟨xs, A, j, k, rfl, by omega, HXR.out, hd, hq2, (ofOwn' hO (by unfold maxLen; omega)).down (by omega)⟩
theorem bigC_any {A : Option Addr} {n k : Nat} (w : World) (hn : n ≤ 9223372036854775807) : Calls Tryd.prog 13 #[.slice A n k] w fun e w' => e = .returned (.bool (decide (1048576 < n))) ∧ w = w' := by
  go_enter Tryd.func13, Tryd.ntmps13
  go_wp2
  go_ret
  have e : decide ((1048576 : Int) < (n : Int)) = decide (1048576 < n) := decide_eq_decide.2 (by omega)
  exact ⟨congrArg (fun b => Ending.returned (.bool b)) e, rfl⟩
theorem at0_any {B : Nat} (A : Option Addr) (n k : Nat) (w : World) (h : RdB w B A n) (hn : n ≤ 1048576) : Calls Tryd.prog 18 #[.slice A n k, .int .i64 1] w fun e w' => ∃ v : Int, 0 ≤ v ∧ v ≤ 255 ∧ e = .returned (.int .i64 v) ∧ w = w' := by
  by_cases h1 : 1 < n
  · obtain ⟨b, o, rfl, hbB, hc⟩ := h.2 (by omega)
    obtain ⟨y, hy0, hy1, hyc⟩ := hc 1 h1
    clear hc
    go_enter Tryd.func18, Tryd.ntmps18
    go_wp2
    go_ret
    exact ⟨y, hy0, hy1, rfl, rfl⟩
  · go_enter Tryd.func18, Tryd.ntmps18
    go_wp2
    go_ret
    exact ⟨_, by omega, by omega, rfl, rfl⟩
theorem lintsQ_any {B1 B2 : Nat} (A1 A2 : Option Addr) (n1 c1 n2 c2 : Nat) (xs ys : List Int) (w : World) (h1 : RdI w B1 A1 n1 xs) (h2 : RdI w B2 A2 n2 ys) :
    Calls Tryd.prog 17 #[.slice A1 n1 c1, .slice A2 n2 c2] w (Qt (.bool (xs == ys)) w) := by
  obtain ⟨hl1, hm1, hc1⟩ := h1
  obtain ⟨hl2, hm2, hc2⟩ := h2
  unfold maxLen at hm1 hm2
  by_cases hne : n1 = n2
  · subst hne
    rcases Nat.eq_zero_or_pos n1 with h0 | hpos
    · subst h0
      have hx : xs = [] := List.eq_nil_of_length_eq_zero hl1
      have hy : ys = [] := List.eq_nil_of_length_eq_zero hl2
      subst hx hy
      go_enter Tryd.func17, Tryd.ntmps17
      go_wp2
      go_loop [5] (fun i => i = .int .i64 0) (fun _ => 0)
      case atStart => rfl
      case round =>
        obtain rfl := hrel
        go_wp2
        go_ret
        exact ⟨rfl, SameD.refl _⟩
    · obtain ⟨b1, o1, rfl, _, hx⟩ := hc1 hpos
      obtain ⟨b2, o2, rfl, _, hy⟩ := hc2 hpos
      have HL := Lib.hid (And.intro hl1 hl2)
      clear hc1 hc2 hl1 hl2
      go_enter Tryd.func17, Tryd.ntmps17
      go_wp2
      go_loopw [5] (fun i wr => ∃ k : Nat, k ≤ n1 ∧ i = .int .i64 k ∧ Hid (xs.take k = ys.take k) ∧ SameD w wr) (fun i _ => n1 - (intOf i).toNat)
      case atStart => exact ⟨0, by omega, rfl, rfl, SameD.refl _⟩
      case round =>
        obtain ⟨k, hk, rfl, he, d, rfl⟩ := hrel
        by_cases hlt : k < n1
        · have hxk := hx k hlt
          have hyk := hy k hlt
          by_cases hz : gI xs k = gI ys k
          · have hz' : (gI xs k != gI ys k) = false := by simpa using hz
            have Hn := Lib.hid (show xs.take (k + 1) = ys.take (k + 1) by
              have a1 := HL.out.1
              have a2 := HL.out.2
              have e1 := he.out
              rw [take_gI (by omega), take_gI (by omega), e1, hz])
            clear hz hx hy
            go_wp2
            go_quiet (fail)
            go_wp2
            go_roundw
            case rel => exact ⟨k + 1, by omega, by go_num, Hn, (by first | exact SameD.refl _ | exact ⟨_, rfl⟩ | exact SameD.two _ _ _ | exact (SameD.two _ _ _).drewN _)⟩
            case measure => simp [intOf]; omega
          · have hz' : (gI xs k != gI ys k) = true := by simpa using hz
            have Hn := Lib.hid (show (xs == ys) = false by
              rw [beq_eq_false_iff_ne]; intro e; exact hz (by rw [e]))
            clear hz hx hy
            go_wp2
            go_quiet (fail)
            go_wp2
            go_ret
            exact ⟨by rw [Hn.out]; rfl, (by first | exact SameD.refl _ | exact ⟨_, rfl⟩ | exact SameD.two _ _ _ | exact (SameD.two _ _ _).drewN _)⟩
        · have hkn : k = n1 := by omega
          have Hn := Lib.hid (show (xs == ys) = true by
            have a1 := HL.out.1
            have a2 := HL.out.2
            have e1 := he.out
            rw [List.take_of_length_le (by omega), List.take_of_length_le (by omega)] at e1
            rw [e1]; simp)
          clear hx hy
          subst hkn
          go_wp2
          go_ret
          exact ⟨by rw [Hn.out]; rfl, (by first | exact SameD.refl _ | exact ⟨_, rfl⟩ | exact SameD.two _ _ _ | exact (SameD.two _ _ _).drewN _)⟩
  · have hb : ((n1 : Int) != (n2 : Int)) = true := by simp; omega
    have Hn := Lib.hid (show (xs == ys) = false by
      rw [beq_eq_false_iff_ne]; intro e; subst e; omega)
    clear hc1 hc2 hl1 hl2
    go_enter Tryd.func17, Tryd.ntmps17
    go_wp2
    go_ret
    exact ⟨by rw [Hn.out]; rfl, SameD.refl _⟩
end Go.Proofs.YtfhijaldecbahaaDoor
