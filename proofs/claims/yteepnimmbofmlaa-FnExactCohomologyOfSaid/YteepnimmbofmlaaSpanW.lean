/- span of the program: copies of the rows, reduced, those of zeros left off. No condition but what each theorem names. -/
import Derived.Test.YteepnimmbofmlaaRedW
import Derived.Test.YteepnimmbofmlaaCat
namespace Go.Proofs.Yteepnimmbofmlaa
set_option linter.unusedVariables false
set_option linter.unusedSimpArgs false
set_option maxRecDepth 20000
open Go.RowKit
set_option maxHeartbeats 2000000
theorem OwT.take {w : World} {lo hi n c m : Nat} {A : Option Addr} {hs : List Hdr} {xss : List (List Int)} (h : OwT w lo hi (.slice A n c) n hs xss) (hm : m ≤ n) : OwT w lo hi (.slice A m c) m (hs.take m) (xss.take m) := by
  have hl := h.hlen
  have hx := h.len
  have hh : ∀ j, j < m → hdr (hs.take m) j = hdr hs j := fun j hj => by unfold hdr; simp [List.getD_eq_getElem?_getD, List.getElem?_take, hj]
  have hr : ∀ j, j < m → row (xss.take m) j = row xss j := fun j hj => by unfold row; simp [List.getD_eq_getElem?_getD, List.getElem?_take, hj]
  have hob : (Value.slice A m c).ownBlock = (Value.slice A n c).ownBlock := by cases A <;> rfl
  refine ⟨⟨by simp [hl]; omega, ?_⟩, fun b e => h.blk b (by rw [← hob]; exact e), by simp [hx]; omega, fun j hj => ?_, fun j b o hj hp e => ?_, fun i j b o b' o' hij hj hp hp' e e' => ?_⟩
  · rcases h.tbl.2 with ⟨h1, h2⟩ | ⟨g, cap, cur, e1, hb, hg, r1, r2, r3, r4⟩
    · injection h1 with e1 e2 e3
      left
      exact ⟨by rw [e1, e3, show m = 0 by omega], by omega⟩
    · injection e1 with e1 e2 e3
      subst e1 e3
      right
      refine ⟨g, _, cur, rfl, hb, hg, by omega, r2, r3, ?_⟩
      rw [List.map_take, ← r4, List.take_take]
      congr 1; omega
  · rw [hh j hj, hr j hj]; exact h.rows j (by omega)
  · rw [hh j hj] at hp e; rw [hob]; exact h.sepT j b o (by omega) hp e
  · rw [hh i (by omega)] at hp e
    rw [hh j hj] at hp' e'
    exact h.sep i j b o b' o' hij (by omega) hp hp' e e'
theorem tpart_run {A : Option Addr} {n k hi : Nat} (H : Int) (hH : H = hi) (hd : Hd A n k) (h2 : hi ≤ n) :
    ∀ w : World, Sem.run Try.prog (Instr.sliceAt 36 (.slice A n k) none (some (.int .i64 H)) none) w = .ok (.slice A hi k) w := by
  subst hH
  intro w
  have hk : n ≤ k := by rcases hd with ⟨_, h1, h2⟩ | ⟨b, o, _, h1, _⟩ <;> omega
  rw [run_sliceAt_slice _ _ _ _ _ _ Try.underlying36, run_slice_h _ _ _ _ _ Try.underlying36 _ _ (by omega) (by omega)]
  simp only [Int.toNat_natCast, sliced]
  have : (sizeOf (Program.elem Try.prog 36)).run Try.prog w = .ok 1 w := by kernel_rfl
  rw [this]
  simp only [Result.andThen]
  by_cases e : k = 0
  · rw [if_pos e]; rfl
  · rw [if_neg e]
    rcases hd with ⟨rfl, h1, h3⟩ | ⟨b, o, rfl, _, _⟩
    · rfl
    · simp [Addr.add]
theorem take_xss {xss : List (List Int)} {j : Nat} (h : j < xss.length) : xss.take (j + 1) = xss.take j ++ [row xss j] := by rw [List.take_succ_eq_append_getElem h, row_lt h]
theorem span_any {B : Nat} (A : Option Addr) (R k C : Nat) (p : Int) (f : Tb) (hs : List Hdr) (xss : List (List Int)) (w : World) (h : RdT w B A R hs xss) (hF : FF xss R C f) (hB : B ≤ w.heap.size) (hR : R ≤ 1000000) (hC : C ≤ 1000000) (hp : isP p = true) (hf : ResF f p) :
    Calls Try.prog 48 #[.slice A R k, .int .i64 C, .int .i64 p] w (RetT (tabR (rr R p f C).rk C (rr R p f C).f) w) := by
  have HF := Lib.hid hF
  have HP := Lib.hid hp
  have HRF := Lib.hid hf
  have HL := Lib.hid h.len
  have HFL := Lib.hid (show ∀ j, j < R → (row xss j).length = C from fun j hj => (hF j hj).1)
  clear hF hp hf
  go_enter Try.func48, Try.ntmps48
  go_wp2_with fail
  go_loopw [7, 13] (fun v i wr => ∃ (j hi : Nat) (hs' : List Hdr), j ≤ R ∧ i = .int .i64 j ∧ OwT wr w.heap.size hi v j hs' (xss.take j) ∧ Below w.heap.size w wr ∧ hi ≤ wr.heap.size) (fun _ i _ => R - (intOf i).toNat)
  case atStart => exact ⟨0, _, [], by omega, rfl, OwT.made w, (Below.refl _ _).alloc (Nat.le_refl _) _, by simp⟩
  case round =>
    obtain ⟨j, hi, hs', hj, rfl, hT, hB1, hhi⟩ := hrel
    have hsz := hB1.size
    by_cases hlt : j < R
    · obtain ⟨b, o, rfl, hb, hc⟩ := h.tbl (by omega)
      have hcj := (hB1.cell (p := ⟨b, o + j, none⟩) (by show b < _; omega)).trans (hc j hlt)
      unfold slv at hcj
      obtain ⟨hr, hd⟩ := h.rows j hlt
      have hr' := hr.below hB1 hB
      have hlen : (hdr hs j).2.1 = C := by rw [← hr.1]; exact HFL.out j hlt
      have hlen' : (hdr hs j).2.1 ≤ 1073741824 := by omega
      have HTS := Lib.hid (take_xss (xss := xss) (j := j) (by rw [HL.out]; exact hlt))
      have hcn : j ≤ 1073741824 := by omega
      clear hc hr hlen
      go_wp2_with (first | (go_at_call 59; refine (clone_any _ _ _ _ _ hr' hd (by omega) hlen').mono ?_; rintro e w1 ⟨A1, n1, c1, rfl, hd1, hb1, ho1⟩; have hT1 := hT.below hb1 hhi; have hs1 := hb1.size) | (at_builtin; refine wpList_apT (v := u7) (w := w1.alloc (.cells #[.slice A1 n1 c1] 22)) (lo := w.heap.size) (b := w1.heap.size) (u := .slice A1 n1 c1) rfl (.tmp 17) (.tmp 20) rfl rfl (hT1.alloc (by omega) _).tbl rfl (Box.new w1 _ _).one rfl hcn (by rw [World.size_alloc]; omega) ?_; intro v2 w3 ho2 hg2 hv2))
      obtain ⟨hT3, hB3⟩ := hT.pushed hhi hb1 ho1 (Nat.le_refl _) hd1 (by omega) ho2 hg2 hv2
      have hB4 := hB1.trans hB3
      clear hT1 hT ho1 hb1 ho2 hg2 hv2 hr' hcj
      go_wp2
      go_roundw
      case rel => exact ⟨j + 1, _, _, by omega, by go_num, by rw [HTS.out]; exact hT3, hB4, Nat.le_refl _⟩
      case measure => simp [intOf]; omega
    · obtain rfl : R = j := by omega
      have HX := Lib.hid (show xss.take R = xss by rw [List.take_of_length_le (by rw [HL.out]; exact Nat.le_refl _)])
      obtain ⟨A', c', rfl, hd'⟩ := hT.hd
      rw [HX.out] at hT
      obtain ⟨hrk, _⟩ := rr_rk R p f C
      have hsl := tpart_run (A := A') (n := R) (k := c') (hi := (rr R p f C).rk) _ rfl hd' hrk
      go_wp2_with (go_at_call 76; refine (reduce_any (lo := w.heap.size) (hi := hi) _ R C p f hs' xss _ hT HF.out hhi hR hC HP.out HRF.out).mono ?_; rintro e w1 ⟨A1, k1, rfl, hd1, hch, ⟨hs2, xss2, hT2, hF2⟩, ho1⟩)
      have HE := Lib.hid (show xss2.take (rr R p f C).rk = tabR (rr R p f C).rk C (rr R p f C).f by rw [hF2.eq_tabR hT2.len, tabR_take hrk])
      have hT3 := hT2.take hrk
      have hB2 := hB1.trans (hch.below (by omega))
      have hs1 := hch.size
      have hdd : Hd A' (rr R p f C).rk c' := by
        rcases hd' with ⟨h1, h2, h3⟩ | ⟨b, o, h1, h2, h3⟩
        · exact .inl ⟨h1, by omega, h3⟩
        · exact .inr ⟨b, o, h1, by omega, h3⟩
      clear hT2 hF2 hch hT hB1 ho1
      go_ret
      exact ⟨_, _, _, rfl, hdd, hB2, _, by rw [← HE.out]; exact hT3.up (by omega)⟩
end Go.Proofs.Yteepnimmbofmlaa
