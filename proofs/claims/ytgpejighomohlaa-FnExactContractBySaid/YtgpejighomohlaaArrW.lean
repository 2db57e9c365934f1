/- The walks of the laws' own helpers on slices of integers: szIntS, toIntS, eqIntS, markIntS, heldIntS, and of l1Residues, residues, l1IsZero, isZero. No condition but what each theorem names. -/
import Derived.Test.YtgpejighomohlaaNum
import Derived.Test.YtgpejighomohlaaMem
namespace Go.Proofs.Ytgpejighomohlaa
set_option linter.unusedVariables false
set_option linter.unusedSimpArgs false
set_option maxRecDepth 20000
open Go.RowKit
set_option maxHeartbeats 400000

theorem szIntS_any (A : Option Addr) (n c : Nat) (l : Int) (w : World) (hn : n ≤ maxLen) (h0 : 0 ≤ l) (h1 : l ≤ 1048576) :
    Calls Try.prog 65 #[.slice A n c, .int .i64 l] w fun e w' => e = .returned (.int .i64 (if (n : Int) ≤ l then l - n else -1)) ∧ w = w' := by
  unfold maxLen at hn
  by_cases h : (n : Int) ≤ l
  · rw [if_pos h]
    have h2 : ¬ l - (n : Int) < 0 := by omega
    go_enter Try.func65, Try.ntmps65
    go_wp2
    go_ret
    exact ⟨rfl, rfl⟩
  · rw [if_neg h]
    have h2 : l - (n : Int) < 0 := by omega
    go_enter Try.func65, Try.ntmps65
    go_wp2
    go_ret
    exact ⟨rfl, rfl⟩

theorem eqIntS_any {B1 B2 : Nat} (A1 A2 : Option Addr) (n1 c1 n2 c2 : Nat) (xs ys : List Int) (w : World) (h1 : RdI w B1 A1 n1 xs) (h2 : RdI w B2 A2 n2 ys) :
    Calls Try.prog 21 #[.slice A1 n1 c1, .slice A2 n2 c2] w (Qt (.bool (xs == ys)) w) := by
  obtain ⟨hl1, hm1, hc1⟩ := h1
  obtain ⟨hl2, hm2, hc2⟩ := h2
  unfold maxLen at hm1 hm2
  by_cases hne : n1 = n2
  · subst hne
    rcases Nat.eq_zero_or_pos n1 with h0 | hpos
    · subst h0
      have hx : xs = [] := List.eq_nil_of_length_eq_zero hl1
      have hy : ys = [] := List.eq_nil_of_length_eq_zero hl2
      subst hx hy
      go_enter Try.func21, Try.ntmps21
      go_wp2
      go_loop [5] (fun i => i = .int .i64 0) (fun _ => 0)
      case atStart => rfl
      case round =>
        obtain rfl := hrel
        go_wp2
        go_ret
        exact ⟨rfl, SameD.refl _⟩
    · obtain ⟨b1, o1, rfl, _, hx⟩ := hc1 hpos
      obtain ⟨b2, o2, rfl, _, hy⟩ := hc2 hpos
      have HL := Lib.hid (And.intro hl1 hl2)
      clear hc1 hc2 hl1 hl2
      go_enter Try.func21, Try.ntmps21
      go_wp2
      go_loopw [5] (fun i wr => ∃ k : Nat, k ≤ n1 ∧ i = .int .i64 k ∧ Hid (xs.take k = ys.take k) ∧ SameD w wr) (fun i _ => n1 - (intOf i).toNat)
      case atStart => exact ⟨0, by omega, rfl, rfl, SameD.refl _⟩
      case round =>
        obtain ⟨k, hk, rfl, he, d, rfl⟩ := hrel
        by_cases hlt : k < n1
        · have hxk := hx k hlt
          have hyk := hy k hlt
          by_cases hz : gI xs k = gI ys k
          · have hz' : (gI xs k != gI ys k) = false := by simpa using hz
            have Hn := Lib.hid (show xs.take (k + 1) = ys.take (k + 1) by
              have a1 := HL.out.1
              have a2 := HL.out.2
              have e1 := he.out
              rw [take_gI (by omega), take_gI (by omega), e1, hz])
            clear hz hx hy
            go_wp2
            go_quiet (fail)
            go_wp2
            go_roundw
            case rel => exact ⟨k + 1, by omega, by go_num, Hn, (by first | exact SameD.refl _ | exact ⟨_, rfl⟩ | exact SameD.two _ _ _ | exact (SameD.two _ _ _).drewN _)⟩
            case measure => simp [intOf]; omega
          · have hz' : (gI xs k != gI ys k) = true := by simpa using hz
            have Hn := Lib.hid (show (xs == ys) = false by
              rw [beq_eq_false_iff_ne]; intro e; exact hz (by rw [e]))
            clear hz hx hy
            go_wp2
            go_quiet (fail)
            go_wp2
            go_ret
            exact ⟨by rw [Hn.out]; rfl, (by first | exact SameD.refl _ | exact ⟨_, rfl⟩ | exact SameD.two _ _ _ | exact (SameD.two _ _ _).drewN _)⟩
        · have hkn : k = n1 := by omega
          have Hn := Lib.hid (show (xs == ys) = true by
            have a1 := HL.out.1
            have a2 := HL.out.2
            have e1 := he.out
            rw [List.take_of_length_le (by omega), List.take_of_length_le (by omega)] at e1
            rw [e1]; simp)
          clear hx hy
          subst hkn
          go_wp2
          go_ret
          exact ⟨by rw [Hn.out]; rfl, (by first | exact SameD.refl _ | exact ⟨_, rfl⟩ | exact SameD.two _ _ _ | exact (SameD.two _ _ _).drewN _)⟩
  · have hb : ((n1 : Int) != (n2 : Int)) = true := by simp; omega
    have Hn := Lib.hid (show (xs == ys) = false by
      rw [beq_eq_false_iff_ne]; intro e; subst e; omega)
    clear hc1 hc2 hl1 hl2
    go_enter Try.func21, Try.ntmps21
    go_wp2
    go_ret
    exact ⟨by rw [Hn.out]; rfl, SameD.refl _⟩

theorem Try.infoI : (Try.prog.info? 3).map (fun i => (i.zero, i.size, i.bytes)) = some (some (.int .i64 0), 1, 8) := by kernel_rfl

/-- a call that hands back a new slice of the numbers xs, and turns nothing that was there -/
def RetI (xs : List Int) (w : World) (e : Ending) (w' : World) : Prop :=
  ∃ A n c, e = .returned (.slice A n c) ∧ Hd A n c ∧ Below w.heap.size w w' ∧ OwI w' w.heap.size w'.heap.size A n xs

theorem toIntS_any {B : Nat} (A : Option Addr) (n c : Nat) (xs : List Int) (w : World) (h : RdI w B A n xs) (hB : B ≤ w.heap.size) (hn : n ≤ 1073741824) :
    Calls Try.prog 18 #[.slice A n c] w (RetI xs w) := by
  obtain ⟨hl1, hm1, hc1⟩ := h
  clear hm1
  rcases Nat.eq_zero_or_pos n with h0 | hpos
  · subst h0
    have hx : xs = [] := List.eq_nil_of_length_eq_zero hl1
    subst hx
    go_enter Try.func18, Try.ntmps18
    go_wp2_with (at_make; refine wpList_mkI _ rfl _ _ 22 rfl 3 Try.underlying22 Try.infoI .i64 .i64 _ _ 0 rfl rfl rfl rfl (by omega) ?_; intro w1 ho hb hs)
    go_loop [4] (fun i => i = .int .i64 0) (fun _ => 0)
    case atStart => rfl
    case round =>
      obtain rfl := hrel
      go_wp2
      go_ret
      exact ⟨_, _, _, rfl, Hd.self (by unfold maxLen; omega), hb, OwI.emp _ _ _ _⟩
  · obtain ⟨b, o, rfl, hbB, hx⟩ := hc1 hpos
    have HL := Lib.hid hl1
    clear hc1 hl1
    go_enter Try.func18, Try.ntmps18
    go_wp2_with (at_make; refine wpList_mkI _ rfl _ _ 22 rfl 3 Try.underlying22 Try.infoI .i64 .i64 _ _ n rfl rfl rfl rfl (by omega) ?_; intro w1 ho hb hs)
    have HS := Lib.hid hs
    clear hs
    go_loopw [4] (fun i wr => ∃ k : Nat, k ≤ n ∧ i = .int .i64 k ∧ Below w.heap.size w wr ∧ OwI wr w.heap.size wr.heap.size (some ⟨w.heap.size, 0, none⟩) n (xs.take k ++ List.replicate (n - k) 0)) (fun i _ => n - (intOf i).toNat)
    case atStart => exact ⟨0, by omega, rfl, hb, by simpa using ho⟩
    case round =>
      obtain ⟨k, hk, rfl, hbr, hor⟩ := hrel
      by_cases hlt : k < n
      · have hxk := (hbr.cell (p := ⟨b, o + k, none⟩) (by show b < _; omega)).trans (hx k hlt)
        obtain ⟨b', o', e, hb0, hb1, hcc⟩ := hor.2.2 hpos
        have hfz := (hcc k hlt).2
        have hcl := (hcc k hlt).1
        obtain ⟨rfl, rfl⟩ : w.heap.size = b' ∧ 0 = o' := by injection e with e; injection e with e1 e2; exact ⟨e1, e2⟩
        rw [Nat.zero_add] at hfz hcl
        have Hst := Lib.hid (hor.store (k := k) (v := gI xs k) hlt)
        have HL1 := Lib.hid (show (xs.take k ++ List.replicate (n - k) 0).set k (gI xs k) = xs.take (k + 1) ++ List.replicate (n - (k + 1)) 0 by
          have a1 := HL.out
          rw [take_gI (by omega), List.set_append_right _ _ (by rw [List.length_take]; omega), List.length_take, show k - min k xs.length = 0 by omega, show n - k = (n - (k + 1)) + 1 by omega, List.replicate_succ]
          simp)
        clear hx hcc e hor hb0 hb1
        go_wp2
        go_roundw
        case rel => exact ⟨k + 1, by omega, by go_num, hbr.setCell (by simp) _, by
          have := Hst.out
          rw [HL1.out, Nat.zero_add] at this
          rw [World.size_setCell]
          exact this⟩
        case measure => simp [intOf]; omega
      · have hkn : k = n := by omega
        have HL1 := Lib.hid (show xs.take k ++ List.replicate (n - k) 0 = xs by
          have a1 := HL.out
          rw [List.take_of_length_le (by omega), show n - k = 0 by omega]; simp)
        rw [HL1.out] at hor
        clear hx
        go_wp2
        go_ret
        exact ⟨_, _, _, rfl, Hd.self hor.2.1, hbr, hor⟩

theorem markIntS_any {B0 B : Nat} (A : Option Addr) (n c : Nat) (k : Int) (xs : List Int) (w : World) (h : OwI w B0 B A n xs) (hk0 : 0 ≤ k) (hk1 : k + n ≤ 1000000000000) :
    Calls Try.prog 25 #[.slice A n c, .int .i64 k] w (RetMark B0 B A n k w) := by
  have HO := Lib.hid h
  obtain ⟨hl1, hm1, hc1⟩ := h
  clear hm1
  rcases Nat.eq_zero_or_pos n with h0 | hpos
  · subst h0
    go_enter Try.func25, Try.ntmps25
    go_wp2
    go_loop [1, 5] (fun kk i => kk = .int .i64 k ∧ i = .int .i64 0) (fun _ _ => 0)
    case atStart => exact ⟨rfl, rfl⟩
    case round =>
      obtain ⟨rfl, rfl⟩ := hrel
      go_wp2
      go_ret
      exact ⟨by simp, Chg.refl _ _ _, OwI.emp _ _ _ _⟩
  · obtain ⟨b, o, rfl, hb0, hbB, hx⟩ := hc1 hpos
    have HL := Lib.hid hl1
    clear hc1 hl1 hx
    go_enter Try.func25, Try.ntmps25
    go_wp2
    go_loopw [1, 5] (fun kk i wr => ∃ j : Nat, j ≤ n ∧ kk = .int .i64 (k + j) ∧ i = .int .i64 j ∧ Chg B0 B w wr ∧ OwI wr B0 B (some ⟨b, o, none⟩) n (mkI k j ++ xs.drop j)) (fun _ i _ => n - (intOf i).toNat)
    case atStart => exact ⟨0, by omega, by simp, rfl, Chg.refl _ _ _, HO.out⟩
    case round =>
      obtain ⟨j, hj, rfl, rfl, hbr, hor⟩ := hrel
      by_cases hlt : j < n
      · obtain ⟨b', o', e, hb0', hb1, hcc⟩ := hor.2.2 hpos
        obtain ⟨rfl, rfl⟩ : b = b' ∧ o = o' := by injection e with e; injection e with e1 e2; exact ⟨e1, e2⟩
        have hfz := (hcc j hlt).2
        have hcl := (hcc j hlt).1
        have Hst := Lib.hid (hor.store (k := j) (v := k + j) hlt)
        have HL1 := Lib.hid (show (mkI k j ++ xs.drop j).set j (k + j) = mkI k (j + 1) ++ xs.drop (j + 1) by
          have a1 := HL.out
          rw [List.set_append_right _ _ (by rw [mkI_len]; omega), mkI_len, Nat.sub_self, mkI_succ, List.drop_eq_getElem_cons (show j < xs.length by omega), List.set_cons_zero, List.append_assoc]
          rfl)
        clear hcc e hor hb0' hb1
        go_wp2
        go_roundw
        case rel => exact ⟨j + 1, by omega, by go_num, by go_num, hbr.setCell (by show B0 ≤ b; omega) (by show b < B; omega) _, by
          have := Hst.out
          rw [HL1.out] at this
          exact this⟩
        case measure => simp [intOf]; omega
      · have hkn : j = n := by omega
        have HL1 := Lib.hid (show mkI k j ++ xs.drop j = mkI k n by
          have a1 := HL.out
          rw [List.drop_eq_nil_of_le (by omega), List.append_nil, hkn])
        rw [HL1.out] at hor
        subst hkn
        go_wp2
        go_ret
        exact ⟨rfl, hbr, hor⟩

theorem heldIntS_any {B : Nat} (A : Option Addr) (n c : Nat) (k : Int) (w : World) (h : RdI w B A n (mkI k n)) (hk0 : 0 ≤ k) (hk1 : k + n ≤ 1000000000000) :
    Calls Try.prog 26 #[.slice A n c, .int .i64 k] w fun e w' => e = .returned (.int .i64 (k + n)) ∧ w = w' := by
  obtain ⟨hl1, hm1, hc1⟩ := h
  clear hm1 hl1
  rcases Nat.eq_zero_or_pos n with h0 | hpos
  · subst h0
    go_enter Try.func26, Try.ntmps26
    go_wp2
    go_loop [1, 5] (fun kk i => kk = .int .i64 k ∧ i = .int .i64 0) (fun _ _ => 0)
    case atStart => exact ⟨rfl, rfl⟩
    case round =>
      obtain ⟨rfl, rfl⟩ := hrel
      go_wp2
      go_ret
      exact ⟨by simp, rfl⟩
  · obtain ⟨b, o, rfl, hb0, hx⟩ := hc1 hpos
    clear hc1
    go_enter Try.func26, Try.ntmps26
    go_wp2
    go_loop [1, 5] (fun kk i => ∃ j : Nat, j ≤ n ∧ kk = .int .i64 (k + j) ∧ i = .int .i64 j) (fun _ i => n - (intOf i).toNat)
    case atStart => exact ⟨0, by omega, by simp, rfl⟩
    case round =>
      obtain ⟨j, hj, rfl, rfl⟩ := hrel
      by_cases hlt : j < n
      · have hcl := hx j hlt
        rw [mkI_get k n j hlt] at hcl
        have hne : (k + (j : Int) != k + (j : Int)) = false := by simp
        clear hx
        go_wp2
        go_round
        case rel => exact ⟨j + 1, by omega, by go_num, by go_num⟩
        case measure => simp [intOf]; omega
      · have hkn : j = n := by omega
        subst hkn
        clear hx
        go_wp2
        go_ret
        exact ⟨rfl, rfl⟩

/-! ### residues, zeros -/
/-- all numbers are residues modulo p -/
def resB (xs : List Int) (p : Int) : Bool := xs.all fun x => decide (0 ≤ x) && decide (x < p)
def zeroB (xs : List Int) : Bool := xs.all fun x => x == 0
theorem resB_false {xs : List Int} {p : Int} {k : Nat} (hk : k < xs.length) (h : gI xs k < 0 ∨ p ≤ gI xs k) : resB xs p = false := by
  unfold resB
  rw [List.all_eq_false]
  exact ⟨gI xs k, gI_mem hk, by simp; omega⟩
theorem resB_true {xs : List Int} {p : Int} (h : ∀ k, k < xs.length → 0 ≤ gI xs k ∧ gI xs k < p) : resB xs p = true := by
  unfold resB
  rw [List.all_eq_true]
  intro x hx
  obtain ⟨k, hk, rfl⟩ := List.mem_iff_getElem.1 hx
  have := h k hk
  rw [gI_lt hk] at this
  simp; exact this
theorem resB_get {xs : List Int} {p : Int} (h : resB xs p = true) {k : Nat} (hk : k < xs.length) : 0 ≤ gI xs k ∧ gI xs k < p := by
  unfold resB at h
  rw [List.all_eq_true] at h
  have := h _ (gI_mem hk)
  simpa using this
theorem zeroB_false {xs : List Int} {k : Nat} (hk : k < xs.length) (h : gI xs k ≠ 0) : zeroB xs = false := by
  unfold zeroB
  rw [List.all_eq_false]
  exact ⟨gI xs k, gI_mem hk, by simpa using h⟩
theorem zeroB_true {xs : List Int} (h : ∀ k, k < xs.length → gI xs k = 0) : zeroB xs = true := by
  unfold zeroB
  rw [List.all_eq_true]
  intro x hx
  obtain ⟨k, hk, rfl⟩ := List.mem_iff_getElem.1 hx
  have := h k hk
  rw [gI_lt hk] at this
  simpa using this

theorem l1Residues_any {B : Nat} (A : Option Addr) (n c : Nat) (p : Int) (xs : List Int) (w : World) (h : RdI w B A n xs) :
    Calls Try.prog 69 #[.slice A n c, .int .i64 p] w (Qt (.bool (resB xs p)) w) := by
  obtain ⟨hl1, hm1, hc1⟩ := h
  unfold maxLen at hm1
  rcases Nat.eq_zero_or_pos n with h0 | hpos
  · subst h0
    have hx : xs = [] := List.eq_nil_of_length_eq_zero hl1
    subst hx
    have HT := Lib.hid (show resB [] p = true from rfl)
    go_enter Try.func69, Try.ntmps69
    go_wp2
    go_loop [5] (fun i => i = .int .i64 0) (fun _ => 0)
    case atStart => rfl
    case round =>
      obtain rfl := hrel
      go_wp2
      go_ret
      exact ⟨by rw [HT.out]; rfl, SameD.refl _⟩
  · obtain ⟨b, o, rfl, _, hx⟩ := hc1 hpos
    have HL := Lib.hid hl1
    clear hc1 hl1
    go_enter Try.func69, Try.ntmps69
    go_wp2
    go_loop [5] (fun i => ∃ k : Nat, k ≤ n ∧ i = .int .i64 k ∧ Hid (∀ j, j < k → 0 ≤ gI xs j ∧ gI xs j < p)) (fun i => n - (intOf i).toNat)
    case atStart => exact ⟨0, by omega, rfl, fun j hj => by omega⟩
    case round =>
      obtain ⟨k, hk, rfl, he⟩ := hrel
      by_cases hlt : k < n
      · have hxk := hx k hlt
        have hL : k < xs.length := by have := HL.out; omega
        clear hx
        by_cases h1 : gI xs k < 0
        · have HF := Lib.hid (resB_false (p := p) hL (.inl h1))
          go_wp2
          go_ret
          exact ⟨by rw [HF.out]; rfl, (by first | exact SameD.refl _ | exact ⟨_, rfl⟩ | exact SameD.two _ _ _ | exact (SameD.two _ _ _).drewN _)⟩
        · by_cases h2 : p ≤ gI xs k
          · have HF := Lib.hid (resB_false (p := p) hL (.inr h2))
            go_wp2
            go_ret
            exact ⟨by rw [HF.out]; rfl, (by first | exact SameD.refl _ | exact ⟨_, rfl⟩ | exact SameD.two _ _ _ | exact (SameD.two _ _ _).drewN _)⟩
          · go_wp2
            go_round
            case rel => exact ⟨k + 1, by omega, by go_num, fun j hj => by
              by_cases hjk : j = k
              · subst hjk; omega
              · exact he.out j (by omega)⟩
            case measure => simp [intOf]; omega
      · have HT := Lib.hid (resB_true (xs := xs) (p := p) (fun j hj => he.out j (by have := HL.out; omega)))
        clear hx
        go_wp2
        go_ret
        exact ⟨by rw [HT.out]; rfl, (by first | exact SameD.refl _ | exact ⟨_, rfl⟩ | exact SameD.two _ _ _ | exact (SameD.two _ _ _).drewN _)⟩

theorem l1IsZero_any {B : Nat} (A : Option Addr) (n c : Nat) (xs : List Int) (w : World) (h : RdI w B A n xs) :
    Calls Try.prog 80 #[.slice A n c] w (Qt (.bool (zeroB xs)) w) := by
  obtain ⟨hl1, hm1, hc1⟩ := h
  unfold maxLen at hm1
  rcases Nat.eq_zero_or_pos n with h0 | hpos
  · subst h0
    have hx : xs = [] := List.eq_nil_of_length_eq_zero hl1
    subst hx
    have HT := Lib.hid (show zeroB [] = true from rfl)
    go_enter Try.func80, Try.ntmps80
    go_wp2
    go_loop [3] (fun i => i = .int .i64 0) (fun _ => 0)
    case atStart => rfl
    case round =>
      obtain rfl := hrel
      go_wp2
      go_ret
      exact ⟨by rw [HT.out]; rfl, SameD.refl _⟩
  · obtain ⟨b, o, rfl, _, hx⟩ := hc1 hpos
    have HL := Lib.hid hl1
    clear hc1 hl1
    go_enter Try.func80, Try.ntmps80
    go_wp2
    go_loop [3] (fun i => ∃ k : Nat, k ≤ n ∧ i = .int .i64 k ∧ Hid (∀ j, j < k → gI xs j = 0)) (fun i => n - (intOf i).toNat)
    case atStart => exact ⟨0, by omega, rfl, fun j hj => by omega⟩
    case round =>
      obtain ⟨k, hk, rfl, he⟩ := hrel
      by_cases hlt : k < n
      · have hxk := hx k hlt
        have hL : k < xs.length := by have := HL.out; omega
        clear hx
        by_cases h1 : gI xs k = 0
        · have h1' : (gI xs k != 0) = false := by simpa using h1
          have H1 := Lib.hid h1
          clear h1
          go_wp2
          go_round
          case rel => exact ⟨k + 1, by omega, by go_num, fun j hj => by
            by_cases hjk : j = k
            · subst hjk; exact H1.out
            · exact he.out j (by omega)⟩
          case measure => simp [intOf]; omega
        · have HF := Lib.hid (zeroB_false hL h1)
          have h1' : (gI xs k != 0) = true := by simpa using h1
          clear h1
          go_wp2
          go_ret
          exact ⟨by rw [HF.out]; rfl, (by first | exact SameD.refl _ | exact ⟨_, rfl⟩ | exact SameD.two _ _ _ | exact (SameD.two _ _ _).drewN _)⟩
      · have HT := Lib.hid (zeroB_true (xs := xs) (fun j hj => he.out j (by have := HL.out; omega)))
        clear hx
        go_wp2
        go_ret
        exact ⟨by rw [HT.out]; rfl, (by first | exact SameD.refl _ | exact ⟨_, rfl⟩ | exact SameD.two _ _ _ | exact (SameD.two _ _ _).drewN _)⟩
end Go.Proofs.Ytgpejighomohlaa
