/- FormatInt of the reference. No condition but what each theorem names. -/
import Derived.Test.YtnkcjekfjlbcdaaGreatDoorFmt
import Derived.Test.YtnkcjekfjlbcdaaGreatDoorMem
import Derived.Test.YtnkcjekfjlbcdaaGreatDoorRows
import Derived.Laws.IdiomStrings
import Derived.Laws.Concat
import Derived.Laws.Strings
import Derived.Laws.BytesString
import Derived.Outline
import Derived.IntWalk
namespace Go.Proofs.YtnkcjekfjlbcdaaGreatDoor
set_option linter.unusedVariables false
set_option linter.unusedSimpArgs false
set_option maxRecDepth 20000
open Go.RowKit
set_option maxHeartbeats 4000000
theorem byte_str (w : World) (b : UInt8) : (convert 54 9 (.slice (some ⟨w.heap.size, 0, none⟩) 1 1)).run Tryz.prog (w.alloc (.cells #[.int .u8 (b.toNat : Int)] 5)) = .ok (.string ⟨#[b]⟩) (w.alloc (.cells #[.int .u8 (b.toNat : Int)] 5)) := by
  have hb := Box.new w #[.int .u8 (b.toNat : Int)] 5
  refine run_convert_bytes_back _ 54 9 5 ⟨w.heap.size, 0, none⟩ 1 [b] Tryz.underlying54 Tryz.underlying5 Tryz.underlying9 fun j hj => ?_
  obtain rfl : j = 0 := by simp at hj; omega
  exact hb.cell rfl
theorem sFmt_any (n : Int) (w : World) (h0 : -9223372036854775808 ≤ n) (h1 : n ≤ 9223372036854775807) :
    Calls Tryz.prog 27 #[.int .i64 n] w fun e w' => e = .returned (.string ⟨(Lib.itoa n).toArray⟩) ∧ Below w.heap.size w w' := by
  by_cases hz : n = 0
  · subst hz
    have H0 := Lib.hid itoa_zero
    go_enter Tryz.func27, Tryz.ntmps27
    go_wp2
    go_ret
    exact ⟨by rw [H0.out]; rfl, Below.refl _ _⟩
  · have hz' : (n == 0) = false := by simpa using hz
    have HNZ := Lib.hid hz
    clear hz
    go_enter Tryz.func27, Tryz.ntmps27
    go_wp2_with fail
    go_loopw [3, 4, 5] (fun s m d wr => ∃ (M : Int) (l : List UInt8), m = .int .i64 M ∧ s = .string ⟨l.toArray⟩ ∧ Hid ((0 ≤ n → 0 ≤ M) ∧ (n ≤ 0 → M ≤ 0)) ∧ M.natAbs ≤ n.natAbs ∧ Hid (dgs M.natAbs ++ l = dgs n.natAbs) ∧ Below w.heap.size w wr) (fun _ m _ _ => (intOf m).natAbs)
    case atStart => exact ⟨n, [], rfl, rfl, Lib.hid ⟨id, id⟩, Nat.le_refl _, Lib.hid (by simp), Below.refl _ _⟩
    case round =>
      obtain ⟨M, l, rfl, rfl, HSG, hle, HD, hbl⟩ := hrel
      have hsz := hbl.size
      have hll : l.length ≤ 40 := by
        have h := congrArg List.length HD.out
        rw [List.length_append] at h
        have := dgs_len (u := n.natAbs) (by omega)
        omega
      by_cases hM : M = 0
      · subst hM
        rcases Int.lt_or_gt_of_ne HNZ.out with hneg | hpos
        · have HR := Lib.hid (show Lib.itoa n = 45 :: l by rw [itoa_neg hneg, ← HD.out]; rfl)
          go_wp2
          go_ret
          exact ⟨by rw [HR.out]; exact congrArg (fun a => Ending.returned (.string ⟨a⟩)) (by simp), hbl⟩
        · have HR := Lib.hid (show Lib.itoa n = l by rw [itoa_pos hpos, ← HD.out]; rfl)
          have hn0 : ¬ n < 0 := by omega
          go_wp2
          go_ret
          exact ⟨by rw [HR.out]; rfl, hbl⟩
      · have hM' : (M != 0) = true := by simpa using hM
        obtain ⟨k, hk⟩ : ∃ k, k = M.natAbs % 10 := ⟨_, rfl⟩
        have hk10 : k < 10 := by omega
        obtain ⟨b, hb⟩ : ∃ b, b = UInt8.ofNat (48 + k) := ⟨_, rfl⟩
        have hbn : (48 : Int) + (k : Int) = (b.toNat : Int) := by rw [hb]; exact (byte_nat k hk10).symm
        have hb57 : b.toNat ≤ 57 := by omega
        have HST := Lib.hid (show dgs M.natAbs = dgs (M.natAbs / 10) ++ [b] by rw [hb, hk]; exact dgs_step (by omega))
        have hcv := byte_str wr b
        obtain ⟨q, hq⟩ : ∃ q, q = M.tdiv 10 := ⟨_, rfl⟩
        have hqa : q.natAbs = M.natAbs / 10 := by rw [hq, Int.natAbs_tdiv]; rfl
        have hqs : Hid ((0 ≤ n → 0 ≤ q) ∧ (n ≤ 0 → q ≤ 0)) := by
          have h := HSG.out
          refine Lib.hid ⟨fun hn => ?_, fun hn => ?_⟩
          · rw [hq]; exact Int.tdiv_nonneg (h.1 hn) (by omega)
          · have h2 := h.2 hn
            have : (-M).tdiv 10 = - M.tdiv 10 := Int.neg_tdiv _ _
            have h3 : 0 ≤ (-M).tdiv 10 := Int.tdiv_nonneg (by omega) (by omega)
            omega
        have HQ := Lib.hid (show dgs q.natAbs ++ (b :: l) = dgs n.natAbs by rw [hqa, ← HD.out, HST.out]; simp)
        have hMm : Hid (M.natAbs ≤ n.natAbs) := Lib.hid hle
        have hwq : IntKind.i64.wrap q = q := IntWalk.i64_in _ (by omega)
        have HBL := Lib.hid (show Below w.heap.size w (wr.alloc (.cells #[.int .u8 (b.toNat : Int)] 5)) from hbl.alloc hsz _)
        have HQA := Lib.hid hqa
        have hql : q.natAbs < M.natAbs := by omega
        have HQL := Lib.hid hql
        have HK := Lib.hid hk
        have HB := Lib.hid hb
        have HE := Lib.hid (show ({ data := #[b] } ++ { data := l.toArray } : ByteArray) = ⟨(b :: l).toArray⟩ by apply ByteArray.ext; simp)
        rcases Int.lt_or_gt_of_ne hM with hneg | hpos
        · have hmt : M.tmod 10 = -(k : Int) := by
            have := Int.tmod_eq_emod_of_nonneg (a := -M) (b := 10) (by omega)
            rw [Int.neg_tmod] at this
            omega
          have hq2 : M.tdiv 10 = q := hq.symm
          have hMlo : -9223372036854775808 ≤ M := by omega
          have hMhi : M ≤ 0 := by omega
          rcases Nat.eq_zero_or_pos k with hk0 | hk0
          · subst hk0
            have hb48 : (b.toNat : Int) = 48 := by omega
            rw [hb48] at hcv
            have HBL2 := Lib.hid HBL.out
            rw [hb48] at HBL2
            clear hk hb hq hqa hql hbn hb48 hb57
            go_wp2
            exact ⟨⟨q, b :: l, rfl, by rw [HE.out], hqs, by have := HQL.out; have := hMm.out; omega, HQ, HBL2.out⟩, by have := HQL.out; simp only [intOf]; omega⟩
          · clear hk hb hq hqa hql
            go_wp2
            exact ⟨⟨q, b :: l, rfl, by rw [HE.out], hqs, by have := HQL.out; have := hMm.out; omega, HQ, HBL.out⟩, by have := HQL.out; simp only [intOf]; omega⟩
        · have hmk : M % 10 = (k : Int) := by omega
          have hMlo : 0 ≤ M := by omega
          have hnp : 0 < n := Int.not_le.1 fun h => by have := HSG.out.2 h; omega
          have hMhi : M ≤ 9223372036854775807 := by omega
          have HQ2 := Lib.hid (show M / 10 = q by rw [hq, Int.tdiv_eq_ediv_of_nonneg hMlo])
          clear hk hb hq hqa hql hwq
          go_wp2
          exact ⟨⟨q, b :: l, by rw [HQ2.out], by rw [HE.out], hqs, by have := HQL.out; have := hMm.out; omega, HQ, HBL.out⟩, by have := HQL.out; rw [HQ2.out]; simp only [intOf]; omega⟩
end Go.Proofs.YtnkcjekfjlbcdaaGreatDoor
