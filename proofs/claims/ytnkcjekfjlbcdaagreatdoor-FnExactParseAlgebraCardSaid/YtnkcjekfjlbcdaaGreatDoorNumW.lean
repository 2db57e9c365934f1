/- The reference's reading of one word. -/
import Derived.Test.YtnkcjekfjlbcdaaGreatDoorSpl
import Derived.Test.YtnkcjekfjlbcdaaGreatDoorFmtW
namespace Go.Proofs.YtnkcjekfjlbcdaaGreatDoor
set_option linter.unusedVariables false
set_option linter.unusedSimpArgs false
set_option maxRecDepth 20000
open Go Go.RowKit
set_option maxHeartbeats 4000000
theorem body_at {l : List UInt8} {p : Nat} (h : body l = l.drop p) {i : Nat} (hp : p ≤ i) (hi : i < l.length) : (body l).take (i + 1 - p) = (body l).take (i - p) ++ [l[i]'hi] := by
  rw [h, show i + 1 - p = (i - p) + 1 by omega, List.take_add_one, List.getElem?_drop, show p + (i - p) = i by omega, List.getElem?_eq_getElem hi]
  rfl
theorem form_bad {l : List UInt8} (h : ¬ inForm l) : numW l = none := numW_none fun ⟨_, hn⟩ => h (ok_form hn).1
theorem end_val (l : List UInt8) (h : inForm l) (n : Int) (hn : numV l = n) : numW l = (if (Lib.itoa n == l) = true then some n else none) := by
  subst hn
  by_cases e : Lib.itoa (numV l) = l
  · rw [if_pos (by simpa using e)]
    exact numW_some (form_ok h e)
  · rw [if_neg (by simpa using e)]
    exact numW_none fun ⟨m, hm⟩ => e (by rw [(ok_form hm).2]; exact hm.2.2)
/-- the answer on one word -/
def NumR (l : List UInt8) (w : World) (e : Ending) (w' : World) : Prop := ∃ n b, e = .returned (.tuple #[.int .i64 n, .bool b]) ∧ numW l = (if b = true then some n else none) ∧ Below w.heap.size w w'
theorem sNum_any (l : List UInt8) (s : ByteArray) (w : World) (hs : s.data.toList = l) (hl : l.length ≤ 4294967280) :
    Calls Tryz.prog 25 #[.string s] w (NumR l w) := by
  have hls : s.size = l.length := by rw [← hs]; rfl
  have hat : ∀ (i : Nat) (hi : i < l.length), (s[i]'(by omega)) = l[i]'hi := fun i hi => by subst hs; rfl
  have HAT := Lib.hid hat
  have HSL := Lib.hid hs
  clear hat hs
  by_cases h0 : l.length = 0
  · obtain rfl : l = [] := List.eq_nil_of_length_eq_zero h0
    have hs0 : s.size = 0 := hls
    have HR := Lib.hid (show numW [] = none from form_bad fun h => by have := h.1; simp [body, isNeg] at this)
    clear HAT hls hl
    go_enter Tryz.func25, Tryz.ntmps25
    go_wp2
    exact bodyPost_ret (v := .tuple #[.int .i64 0, .bool false]) (by simp [results, Tryz.results25, go_sem]) rfl ⟨_, _, rfl, HR.out, Below.refl _ _⟩
  · have h00 : 0 < l.length := by omega
    have hz := HAT.out 0 h00
    have HH := Lib.hid (show l.head? = some (l[0]'h00) by rw [List.head?_eq_getElem?, List.getElem?_eq_getElem h00])
    have HZ := Lib.hid hz
    by_cases hng : l[0]'h00 = 45
    · have HNG := Lib.hid (show isNeg l = true by unfold isNeg; rw [HH.out, hng]; rfl)
      have hz45 : (((s[0]'(by omega)).toNat : Int) == 45) = true := by rw [HZ.out, hng]; rfl
      clear hz hng
      have HB := Lib.hid (show body l = l.drop 1 by unfold body; rw [HNG.out]; simp)
      have HNV := Lib.hid (show ∀ k, valD (body l) = k → numV l = -(k : Int) by intro k hk; unfold numV; rw [HNG.out, if_pos rfl, hk])
      have hbl : (body l).length = l.length - 1 := by rw [HB.out]; simp
      by_cases hf : 1 + 1 ≤ l.length ∧ l.length ≤ 9 + 1
      · have hf1 := hf.1
        have hf2 := hf.2
        clear hf
        have HBL := Lib.hid hbl
        clear hbl
        go_enter Tryz.func25, Tryz.ntmps25
        go_wp2_with fail
        go_loopw [4, 6] (fun v i wr => ∃ (k : Nat) (j : Nat), 1 ≤ j ∧ j ≤ l.length ∧ v = .int .i64 k ∧ i = .int .i64 j ∧ k < 1000000000 ∧ Hid (valD ((body l).take (j - 1)) = k ∧ digs ((body l).take (j - 1))) ∧ wr = w) (fun _ i _ => l.length - (intOf i).toNat)
        case atStart => exact ⟨0, 1, by omega, by omega, rfl, rfl, by omega, Lib.hid ⟨by simp [valD], by intro c hc; simp at hc⟩, rfl⟩
        case round =>
          obtain ⟨k, j, hj1, hj2, rfl, rfl, hk, HV, rfl⟩ := hrel
          by_cases hlt : j < l.length
          · obtain ⟨c, hc⟩ : ∃ c, s[j]'(by omega) = c := ⟨_, rfl⟩
            have HC := Lib.hid (show (body l).take (j + 1 - 1) = (body l).take (j - 1) ++ [c] by
              rw [body_at HB.out hj1 (by exact hlt), ← hc, HAT.out j (by exact hlt)])
            by_cases hd : 48 ≤ c.toNat ∧ c.toNat ≤ 57
            · have hd1 := hd.1
              have hd2 := hd.2
              clear hd
              have HV2 := Lib.hid (show valD ((body l).take (j + 1 - 1)) = 10 * k + (c.toNat - 48) ∧ digs ((body l).take (j + 1 - 1)) by
                rw [HC.out]; exact ⟨by rw [valD_snoc, HV.out.1], digs_snoc.2 ⟨HV.out.2, hd1, hd2⟩⟩)
              have hk2 : 10 * k + (c.toNat - 48) < 1000000000 := by
                have h1 := val_lt _ _ rfl HV2.out.2
                rw [HV2.out.1] at h1
                have h2 : ((body l).take (j + 1 - 1)).length ≤ 9 := by rw [List.length_take, HBL.out]; omega
                have h3 : 10 ^ ((body l).take (j + 1 - 1)).length ≤ 10 ^ 9 := Nat.pow_le_pow_right (by omega) h2
                have e9 : (10 : Nat) ^ 9 = 1000000000 := by decide
                omega
              have hkc : (10 * (k : Int) + ((c.toNat : Int) - 48)) = ((10 * k + (c.toNat - 48) : Nat) : Int) := by omega
              go_wp2
              exact ⟨⟨10 * k + (c.toNat - 48), j + 1, by omega, by omega, by go_num, by go_num, hk2, Lib.hid HV2.out, trivial⟩, by simp [intOf]; omega⟩
            · have HR := Lib.hid (show numW l = none from form_bad fun h => hd (h.2.2 c (List.mem_of_mem_take (i := j + 1 - 1) (by rw [HC.out]; simp))))
              rcases Nat.lt_or_ge c.toNat 48 with h4 | h4
              · clear hd
                go_wp2
                exact bodyPost_ret (v := .tuple #[.int .i64 0, .bool false]) (by simp [results, Tryz.results25, go_sem]) rfl ⟨_, _, rfl, HR.out, Below.refl _ _⟩
              · have h5 : 57 < c.toNat := by omega
                clear hd
                go_wp2
                exact bodyPost_ret (v := .tuple #[.int .i64 0, .bool false]) (by simp [results, Tryz.results25, go_sem]) rfl ⟨_, _, rfl, HR.out, Below.refl _ _⟩
          · obtain rfl : j = l.length := by omega
            have HE := Lib.hid (show (body l).take (l.length - 1) = body l from List.take_of_length_le (by rw [HBL.out]; exact Nat.le_refl _))
            have HF := Lib.hid (show inForm l from ⟨by rw [HBL.out]; omega, by rw [HBL.out]; omega, by have := HV.out.2; rw [HE.out] at this; exact this⟩)
            have HN2 := Lib.hid (end_val l HF.out _ (HNV.out k (by rw [← HE.out]; exact HV.out.1)))
            go_wp2_with fail
            refine (sFmt_any (-(k : Int)) wr (by omega) (by omega)).mono ?_
            rintro e w2 ⟨rfl, hb2⟩
            have HB2 := Lib.hid hb2
            obtain ⟨t, ht⟩ : ∃ t, t = (⟨(Lib.itoa (-(k : Int))).toArray⟩ : ByteArray) := ⟨_, rfl⟩
            rw [← ht]
            have HT := Lib.hid (show (t.toList == s.toList) = (Lib.itoa (-(k : Int)) == l) by rw [Lib.toList_data, Lib.toList_data, HSL.out, ht])
            clear ht hb2
            go_wp2
            exact bodyPost_ret (v := .tuple #[.int .i64 (-(k : Int)), .bool (t.toList == s.toList)]) (by simp [results, Tryz.results25, go_sem]) rfl ⟨_, _, rfl, by rw [HN2.out, HT.out], HB2.out⟩
      · have HR := Lib.hid (show numW l = none from form_bad fun h => hf (by have h1 := h.1; have h2 := h.2.1; rw [hbl] at h1 h2; omega))
        rcases Nat.lt_or_ge l.length (1 + 1) with h4 | h4
        · clear hf hbl
          go_enter Tryz.func25, Tryz.ntmps25
          go_wp2
          exact bodyPost_ret (v := .tuple #[.int .i64 0, .bool false]) (by simp [results, Tryz.results25, go_sem]) rfl ⟨_, _, rfl, HR.out, Below.refl _ _⟩
        · have h5 : 9 + 1 < l.length := by omega
          clear hf hbl
          go_enter Tryz.func25, Tryz.ntmps25
          go_wp2
          exact bodyPost_ret (v := .tuple #[.int .i64 0, .bool false]) (by simp [results, Tryz.results25, go_sem]) rfl ⟨_, _, rfl, HR.out, Below.refl _ _⟩
    · have HNG := Lib.hid (show isNeg l = false by unfold isNeg; rw [HH.out]; simpa using hng)
      have hz45 : (((s[0]'(by omega)).toNat : Int) == 45) = false := by
        rw [HZ.out, beq_eq_false_iff_ne]
        intro e
        exact hng (UInt8.toNat_inj.1 (by exact_mod_cast e))
      clear hz hng
      have HB := Lib.hid (show body l = l.drop 0 by unfold body; rw [HNG.out]; simp)
      have HNV := Lib.hid (show ∀ k, valD (body l) = k → numV l = (k : Int) by intro k hk; unfold numV; rw [HNG.out, if_neg (by decide), hk])
      have hbl : (body l).length = l.length - 0 := by rw [HB.out]; simp
      by_cases hf : 0 + 1 ≤ l.length ∧ l.length ≤ 9 + 0
      · have hf1 := hf.1
        have hf2 := hf.2
        clear hf
        have HBL := Lib.hid hbl
        clear hbl
        go_enter Tryz.func25, Tryz.ntmps25
        go_wp2_with fail
        go_loopw [4, 6] (fun v i wr => ∃ (k : Nat) (j : Nat), 0 ≤ j ∧ j ≤ l.length ∧ v = .int .i64 k ∧ i = .int .i64 j ∧ k < 1000000000 ∧ Hid (valD ((body l).take (j - 0)) = k ∧ digs ((body l).take (j - 0))) ∧ wr = w) (fun _ i _ => l.length - (intOf i).toNat)
        case atStart => exact ⟨0, 0, by omega, by omega, rfl, rfl, by omega, Lib.hid ⟨by simp [valD], by intro c hc; simp at hc⟩, rfl⟩
        case round =>
          obtain ⟨k, j, hj1, hj2, rfl, rfl, hk, HV, rfl⟩ := hrel
          by_cases hlt : j < l.length
          · obtain ⟨c, hc⟩ : ∃ c, s[j]'(by omega) = c := ⟨_, rfl⟩
            have HC := Lib.hid (show (body l).take (j + 1 - 0) = (body l).take (j - 0) ++ [c] by
              rw [body_at HB.out hj1 (by exact hlt), ← hc, HAT.out j (by exact hlt)])
            by_cases hd : 48 ≤ c.toNat ∧ c.toNat ≤ 57
            · have hd1 := hd.1
              have hd2 := hd.2
              clear hd
              have HV2 := Lib.hid (show valD ((body l).take (j + 1 - 0)) = 10 * k + (c.toNat - 48) ∧ digs ((body l).take (j + 1 - 0)) by
                rw [HC.out]; exact ⟨by rw [valD_snoc, HV.out.1], digs_snoc.2 ⟨HV.out.2, hd1, hd2⟩⟩)
              have hk2 : 10 * k + (c.toNat - 48) < 1000000000 := by
                have h1 := val_lt _ _ rfl HV2.out.2
                rw [HV2.out.1] at h1
                have h2 : ((body l).take (j + 1 - 0)).length ≤ 9 := by rw [List.length_take, HBL.out]; omega
                have h3 : 10 ^ ((body l).take (j + 1 - 0)).length ≤ 10 ^ 9 := Nat.pow_le_pow_right (by omega) h2
                have e9 : (10 : Nat) ^ 9 = 1000000000 := by decide
                omega
              have hkc : (10 * (k : Int) + ((c.toNat : Int) - 48)) = ((10 * k + (c.toNat - 48) : Nat) : Int) := by omega
              go_wp2
              exact ⟨⟨10 * k + (c.toNat - 48), j + 1, by omega, by omega, by go_num, by go_num, hk2, Lib.hid HV2.out, trivial⟩, by simp [intOf]; omega⟩
            · have HR := Lib.hid (show numW l = none from form_bad fun h => hd (h.2.2 c (List.mem_of_mem_take (i := j + 1 - 0) (by rw [HC.out]; simp))))
              rcases Nat.lt_or_ge c.toNat 48 with h4 | h4
              · clear hd
                go_wp2
                exact bodyPost_ret (v := .tuple #[.int .i64 0, .bool false]) (by simp [results, Tryz.results25, go_sem]) rfl ⟨_, _, rfl, HR.out, Below.refl _ _⟩
              · have h5 : 57 < c.toNat := by omega
                clear hd
                go_wp2
                exact bodyPost_ret (v := .tuple #[.int .i64 0, .bool false]) (by simp [results, Tryz.results25, go_sem]) rfl ⟨_, _, rfl, HR.out, Below.refl _ _⟩
          · obtain rfl : j = l.length := by omega
            have HE := Lib.hid (show (body l).take (l.length - 0) = body l from List.take_of_length_le (by rw [HBL.out]; exact Nat.le_refl _))
            have HF := Lib.hid (show inForm l from ⟨by rw [HBL.out]; omega, by rw [HBL.out]; omega, by have := HV.out.2; rw [HE.out] at this; exact this⟩)
            have HN2 := Lib.hid (end_val l HF.out _ (HNV.out k (by rw [← HE.out]; exact HV.out.1)))
            go_wp2_with fail
            refine (sFmt_any ((k : Int)) wr (by omega) (by omega)).mono ?_
            rintro e w2 ⟨rfl, hb2⟩
            have HB2 := Lib.hid hb2
            obtain ⟨t, ht⟩ : ∃ t, t = (⟨(Lib.itoa ((k : Int))).toArray⟩ : ByteArray) := ⟨_, rfl⟩
            rw [← ht]
            have HT := Lib.hid (show (t.toList == s.toList) = (Lib.itoa ((k : Int)) == l) by rw [Lib.toList_data, Lib.toList_data, HSL.out, ht])
            clear ht hb2
            go_wp2
            exact bodyPost_ret (v := .tuple #[.int .i64 ((k : Int)), .bool (t.toList == s.toList)]) (by simp [results, Tryz.results25, go_sem]) rfl ⟨_, _, rfl, by rw [HN2.out, HT.out], HB2.out⟩
      · have HR := Lib.hid (show numW l = none from form_bad fun h => hf (by have h1 := h.1; have h2 := h.2.1; rw [hbl] at h1 h2; omega))
        rcases Nat.lt_or_ge l.length (0 + 1) with h4 | h4
        · omega
        · have h5 : 9 + 0 < l.length := by omega
          clear hf hbl
          go_enter Tryz.func25, Tryz.ntmps25
          go_wp2
          exact bodyPost_ret (v := .tuple #[.int .i64 0, .bool false]) (by simp [results, Tryz.results25, go_sem]) rfl ⟨_, _, rfl, HR.out, Below.refl _ _⟩
end Go.Proofs.YtnkcjekfjlbcdaaGreatDoor
