/- The walk of the law on numbers and their text, under the tables and the variables that the row lists. -/
import Derived.Test.YtfhijaldecbahaaDoorPriW
import Derived.Test.YtfhijaldecbahaaDoorFmsW
import Derived.Test.YtfhijaldecbahaaDoorDriW
import Derived.Test.YtfhijaldecbahaaDoorAlgW
import Derived.OpenShut
namespace Go.Proofs.YtfhijaldecbahaaDoor
set_option linter.unusedVariables false
set_option linter.unusedSimpArgs false
set_option maxRecDepth 20000
open Go Go.RowKit
set_option maxHeartbeats 4000000
theorem itoa_no32 (n : Int) : (32 : UInt8) ∉ Lib.itoa n := by
  have hd : (32 : UInt8) ∉ Lib.decDigits n.natAbs := fun h => by
    have := (dec_digs n.natAbs _ h).1
    have e : (32 : UInt8).toNat = 32 := rfl
    omega
  by_cases h : n < 0
  · have e : Lib.itoa n = 45 :: Lib.decDigits n.natAbs := by unfold Lib.itoa; rw [if_pos h]
    rw [e]
    intro hm
    rcases List.mem_cons.1 hm with h1 | h1
    · exact absurd h1 (by decide)
    · exact hd h1
  · have e : Lib.itoa n = Lib.decDigits n.natAbs := by unfold Lib.itoa; rw [if_neg h]; congr 1; omega
    rw [e]; exact hd
theorem itoa_ne (n : Int) : Lib.itoa n ≠ [] := by
  by_cases h : n < 0
  · have e : Lib.itoa n = 45 :: Lib.decDigits n.natAbs := by unfold Lib.itoa; rw [if_pos h]
    rw [e]; simp
  · have e : Lib.itoa n = Lib.decDigits n.natAbs := by unfold Lib.itoa; rw [if_neg h]; congr 1; omega
    rw [e]; exact dec_ne _
theorem fmtL_cons (x y : Int) (r : List Int) : fmtL (x :: y :: r) = Lib.itoa x ++ 32 :: fmtL (y :: r) := by
  unfold fmtL
  rw [List.map_cons, List.map_cons, Lib.join_cons, Lib.join_cons]
  unfold Lib.joinTail
  simp
theorem split_fmt : ∀ (r : List Int) (x : Int), splitW (fmtL (x :: r)) = (x :: r).map Lib.itoa
  | [], x => by rw [fmtL_one, splitW_none (itoa_no32 x)]; rfl
  | y :: r, x => by rw [fmtL_cons, splitW_cut (itoa_no32 x), split_fmt r y]; rfl
theorem parW_itoa : ∀ (xs : List Int), nineL xs → parW (xs.map Lib.itoa) = some xs
  | [], _ => rfl
  | x :: r, h => by
    have h1 := numW_some (n := x) (l := Lib.itoa x) ⟨(h x (by simp)).1, (h x (by simp)).2, rfl⟩
    have h2 := parW_itoa r (fun y hy => h y (by simp [hy]))
    rw [List.map_cons]
    simp only [parW, h1, h2]
theorem par_fmt (xs : List Int) (h : nineL xs) : parL (fmtL xs) = some xs := by
  cases xs with
  | nil =>
    have e : fmtL [] = [] := rfl
    rw [e]; unfold parL; rw [if_pos rfl]
  | cons x r =>
    have hne : fmtL (x :: r) ≠ [] := by
      cases r with
      | nil => rw [fmtL_one]; exact itoa_ne x
      | cons y r => rw [fmtL_cons]; simp
    rw [parL_ne hne, split_fmt]
    exact parW_itoa _ h
/-- the answer on a text whose numbers are known -/
def RetPX (D : List Int) (w : World) (e : Ending) (w' : World) : Prop :=
  ∃ A n k, e = .returned (.tuple #[.slice A n k, .bool true]) ∧ Hd A n k ∧ Below w.heap.size w w' ∧ OwI w' w.heap.size w'.heap.size A n D
theorem prs_is {l : List UInt8} {D : List Int} {w w' : World} {e : Ending} (h : PrsR l w e w') (hp : parL l = some D) : RetPX D w e w' := by
  obtain ⟨A, n, k, b, xs, rfl, hd, hb, ho, hq, hx, hn⟩ := h
  rw [hp] at hq
  cases b with
  | false => rw [if_neg (by decide)] at hq; cases hq
  | true => rw [if_pos rfl] at hq; injection hq with hq; subst hq; exact ⟨A, n, k, rfl, hd, hb, ho⟩
theorem tmod0 {a p : Int} (h : a % p = 0) : a.tmod p = 0 := Int.tmod_eq_zero_of_dvd (Int.dvd_of_emod_eq_zero h)
theorem int_facts {x p : Int} (hp : isP p = true) : (0 ≤ resI x p ∧ resI x p < p ∧ (x - resI x p).tmod p = 0) ∧ (resI x p = 0 → invOfI x p = 0) ∧ (resI x p ≠ 0 → invOfI x p ≠ 0 ∧ 0 ≤ invOfI x p ∧ invOfI x p < p ∧ (resI x p * invOfI x p - 1).tmod p = 0) := by
  have hb := isP_bd hp
  have hr : resI x p = x % p := by unfold resI; rw [if_pos hp]
  rw [hr]
  refine ⟨⟨Int.emod_nonneg _ (by omega), Int.emod_lt_of_pos _ (by omega), tmod0 (by rw [Int.sub_emod, Int.emod_emod, Int.sub_self]; rfl)⟩, fun h => by unfold invOfI; rw [if_neg (by simp [h])], fun h => ?_⟩
  have hi : invOfI x p = invI x p := by unfold invOfI; rw [if_pos ⟨hp, h⟩]
  have hm := invI_mul hp h
  obtain ⟨h1, h2⟩ := invI_bd (n := x) hp
  rw [hi]
  refine ⟨fun e => ?_, h1, h2, tmod0 ?_⟩
  · rw [e, Int.mul_zero, Int.zero_emod] at hm; omega
  · rw [Int.sub_emod, Int.mul_emod, Int.emod_emod, ← Int.mul_emod, hm]
    have : (1 : Int) % p = 1 := Int.emod_eq_of_lt (by omega) (by omega)
    rw [this, Int.sub_self, Int.zero_emod]
theorem walk_FnInts {w : World} (A0 : Option Addr) (n0 k0 : Nat) (z0 : List Int) (y0 : IsRow .u8 w A0 n0 k0 z0) (ht : Tabs w.heap.size w) (he : Errs w) :
    Calls Tryd.prog 4 #[.slice A0 n0 k0] w fun e w' => e = .returned (.bool true) ∧ Below w.heap.size w w' := by
  have hr := RdB.ofRow y0
  have hnm := hr.1
  unfold maxLen at hnm
  clear y0
  by_cases hbig : 1048576 < n0
  · have hb : decide (1048576 < n0) = true := by simpa using hbig
    go_enter Tryd.func4, Tryd.ntmps4
    go_wp2_with (go_at_call 13; refine (bigC_any _ (by omega)).mono ?_; rintro e w' ⟨rfl, rfl⟩)
    go_ret
    exact ⟨rfl, Below.refl _ _⟩
  · have hb : decide (1048576 < n0) = false := by simpa using hbig
    go_enter Tryd.func4, Tryd.ntmps4
    go_wp2_with (go_at_call 13; refine (bigC_any _ (by omega)).mono ?_; rintro e w' ⟨rfl, rfl⟩)
    refine (drawInts_any A0 n0 k0 w hr (Nat.le_refl _)).mono ?_
    rintro e w1 ⟨xs, Al, nl, kl, rfl, hnl, hnine, hdl, hb1, ol1⟩
    have HN := Lib.hid hnine
    have HL := Lib.hid ol1.1
    have hin : In64L xs := fun x hx => by have := hnine x hx; omega
    have hlen := fmtL_len hin xs.length
    rw [List.take_length, ol1.1] at hlen
    have HP := Lib.hid (par_fmt xs hnine)
    have HIN := Lib.hid hin
    have hs1 := hb1.size
    obtain ⟨t, ht0⟩ : ∃ t, t = (⟨(fmtL xs).toArray⟩ : ByteArray) := ⟨_, rfl⟩
    have HT := Lib.hid (show t.data.toList = fmtL xs by rw [ht0])
    have HT0 := Lib.hid ht0
    clear hnine hin hb ht0
    go_wp2_with fail
    refine (iFms_any (B := w1.heap.size) Al nl kl xs w1 ol1.rd (Nat.le_refl _) (by omega) HIN.out (tabs_on2 ht hb1 (by omega))).mono ?_
    rintro e w2 ⟨rfl, hb2⟩
    rw [← HT0.out]
    have hs2 := hb2.size
    have hq2 := hb1.trans (hb2.mono hs1)
    have ol2 := ol1.below hb2 (Nat.le_refl _)
    clear ol1
    go_wp2_with fail
    refine (iPrs_any (fmtL xs) t w2 HT.out (by omega) (tabs_on2 ht hq2 (by omega)) (he.on hq2)).mono ?_
    intro e w3 hx3
    obtain ⟨Ax, nx, kx, rfl, hdx, hb3, ox3⟩ := prs_is hx3 HP.out
    clear hx3
    have hs3 := hb3.size
    have hq3 := hq2.trans (hb3.mono (by omega))
    have ol3 := ol2.below hb3 (by omega)
    clear ol2
    go_wp2_with fail
    refine (sFms_any (B := w3.heap.size) Al nl kl xs w3 (ol3.rd.up (by omega)) (Nat.le_refl _) (by omega) HIN.out).mono ?_
    rintro e w4 ⟨rfl, hb4⟩
    rw [← HT0.out]
    have hs4 := hb4.size
    have hq4 := hq3.trans (hb4.mono (by omega))
    have ol4 := ol3.below hb4 (by omega)
    have ox4 := ox3.below hb4 (by omega)
    clear ol3 ox3
    go_wp2_with fail
    refine (sPrs_any (fmtL xs) t w4 HT.out (by omega)).mono ?_
    intro e w5 hx5
    obtain ⟨Ay, ny, ky, rfl, hdy, hb5, oy5⟩ := prs_is hx5 HP.out
    clear hx5
    have hs5 := hb5.size
    have hq5 := hq4.trans (hb5.mono (by omega))
    have ol5 := ol4.below hb5 (by omega)
    have ox5 := ox4.below hb5 (by omega)
    clear ol4 ox4
    have HEQ : (xs == xs) = true := by simp
    have hbb : (true == true) = true := rfl
    go_wp2_with fail
    refine (lintsQ_any Ax Ay nx kx ny ky xs xs w5 ox5.rd oy5.rd).mono ?_
    rintro e w6 ⟨rfl, d6, rfl⟩
    rw [HEQ]
    go_wp2_with fail
    refine (lintsQ_any Ax Al nx kx nl kl xs xs (w5.drewN d6) (ox5.drewN d6).rd (ol5.drewN d6).rd).mono ?_
    rintro e w7 ⟨rfl, d7, rfl⟩
    rw [HEQ]
    clear HEQ hbb
    have hq7 : Below w.heap.size w ((w5.drewN d6).drewN d7) := below_drewN (below_drewN hq5 d6) d7
    have ol7 : OwI ((w5.drewN d6).drewN d7) w.heap.size w1.heap.size Al nl xs := (ol5.drewN d6).drewN d7
    have hs7 : w5.heap.size ≤ ((w5.drewN d6).drewN d7).heap.size := Nat.le_refl _
    generalize (w5.drewN d6).drewN d7 = w7 at hq7 ol7 hs7 ⊢
    clear ol5 ox5 oy5
    have hR6 := RdI.six w7 2 3 5 7 11 101 3
    have hr7 := (hr.below hq7 (Nat.le_refl _)).below ((Below.refl _ w7).alloc (Nat.le_refl _) (.cells #[.int .i64 2, .int .i64 3, .int .i64 5, .int .i64 7, .int .i64 11, .int .i64 101] 3)) (by omega)
    have ol8 := ol7.alloc (by omega) (.cells #[.int .i64 2, .int .i64 3, .int .i64 5, .int .i64 7, .int .i64 11, .int .i64 101] 3)
    have hq8 := hq7.alloc (by omega) (.cells #[.int .i64 2, .int .i64 3, .int .i64 5, .int .i64 7, .int .i64 11, .int .i64 101] 3)
    clear hr ol7
    go_wp2_with fail
    refine (at0_any A0 n0 k0 _ hr7 (by omega)).mono ?_
    rintro e w8 ⟨v, hv0, hv1, rfl, rfl⟩
    obtain ⟨q, hq⟩ : ∃ q : Nat, v % 6 = (q : Int) := ⟨(v % 6).toNat, by omega⟩
    have hq6 : q < 6 := by omega
    obtain ⟨p, hpp, hp101, hpc⟩ : ∃ p, isP p = true ∧ p ≤ 101 ∧ (w7.alloc (.cells #[.int .i64 2, .int .i64 3, .int .i64 5, .int .i64 7, .int .i64 11, .int .i64 101] 3)).cell? ⟨w7.heap.size, q, none⟩ = some (.int .i64 p) := by
      match q, hq6 with
      | 0, _ => exact ⟨2, by decide +kernel, by decide, (Box.new w7 _ _).cell rfl⟩
      | 1, _ => exact ⟨3, by decide +kernel, by decide, (Box.new w7 _ _).cell rfl⟩
      | 2, _ => exact ⟨5, by decide +kernel, by decide, (Box.new w7 _ _).cell rfl⟩
      | 3, _ => exact ⟨7, by decide +kernel, by decide, (Box.new w7 _ _).cell rfl⟩
      | 4, _ => exact ⟨11, by decide +kernel, by decide, (Box.new w7 _ _).cell rfl⟩
      | 5, _ => exact ⟨101, by decide +kernel, by decide, (Box.new w7 _ _).cell rfl⟩
    clear hR6
    obtain ⟨w9, hw9⟩ : ∃ w9, w7.alloc (.cells #[.int .i64 2, .int .i64 3, .int .i64 5, .int .i64 7, .int .i64 11, .int .i64 101] 3) = w9 := ⟨_, rfl⟩
    rw [hw9] at hpc hq8 ol8 hr7 ⊢
    clear hw9 hr7
    obtain ⟨hp1, hp2⟩ := isP_bd hpp
    have HPP := Lib.hid hpp
    clear hpp
    go_wp2_with fail
    rw [hq]
    clear hq
    go_loopw [9] (fun i wr => ∃ j : Nat, j ≤ nl ∧ i = .int .i64 j ∧ SameD w9 wr) (fun i _ => nl - (intOf i).toNat)
    case atStart => exact ⟨0, by omega, rfl, SameD.refl _⟩
    case round =>
      obtain ⟨j, hj, rfl, d, rfl⟩ := hrel
      by_cases hlt : j < nl
      · have olr := (ol8.drewN d).rd
        obtain ⟨b, o, rfl⟩ := olr.addr (by omega)
        have hc := olr.at_ hlt
        have hx := HN.out _ (gI_mem (show j < xs.length by rw [HL.out]; exact hlt))
        obtain ⟨x, hxx⟩ : ∃ x, x = gI xs j := ⟨_, rfl⟩
        rw [← hxx] at hc hx
        clear hxx
        have hc9 : w9.cell? ⟨b, o + j, none⟩ = some (.int .i64 x) := hc
        obtain ⟨⟨f1, f2, f3⟩, f4, f5⟩ := int_facts (x := x) HPP.out
        have hR := iRes_any x p (w9.drewN d)
        have hI := iInvOf_any x p (w9.drewN d)
        generalize resI x p = r at f1 f2 f3 f4 f5 hR
        generalize invOfI x p = y at f4 f5 hI
        have HR := Lib.hid hR
        have HI := Lib.hid hI
        clear hR hI
        go_wp2_with fail
        refine HR.out.mono ?_
        rintro e w10 ⟨rfl, rfl⟩
        go_wp2_with fail
        refine HI.out.mono ?_
        rintro e w11 ⟨dd, rfl, rfl⟩
        have g3 : ((x - r).tmod p != 0) = false := by rw [f3]; rfl
        by_cases hr0 : r = 0
        · have hy0 := f4 hr0
          subst hr0 hy0
          rw [Int.sub_zero] at g3
          clear f4 f5 f3
          go_wp2
          exact ⟨⟨j + 1, by omega, by go_num, (by first | exact SameD.refl _ | exact ⟨_, rfl⟩ | exact SameD.two _ _ _ | exact (SameD.two _ _ _).drewN _)⟩, by simp [intOf]; omega⟩
        · obtain ⟨k1, k2, k3, k4⟩ := f5 hr0
          have g4 : ((r * y - 1).tmod p != 0) = false := by rw [k4]; rfl
          have hre : (r == 0) = false := by simpa using hr0
          have hye : (y == 0) = false := by simpa using k1
          have hm1 : 0 ≤ r * y := Int.mul_nonneg f1 k2
          have hm2 : r * y ≤ 101 * 101 := Int.mul_le_mul (by omega) (by omega) k2 (by omega)
          clear f4 f5 f3 k4 k1
          go_wp2
          exact ⟨⟨j + 1, by omega, by go_num, (by first | exact SameD.refl _ | exact ⟨_, rfl⟩ | exact SameD.two _ _ _ | exact (SameD.two _ _ _).drewN _)⟩, by simp [intOf]; omega⟩
      · obtain rfl : j = nl := by omega
        go_wp2
        go_ret
        exact ⟨rfl, below_drewN hq8 d⟩
end Go.Proofs.YtfhijaldecbahaaDoor
