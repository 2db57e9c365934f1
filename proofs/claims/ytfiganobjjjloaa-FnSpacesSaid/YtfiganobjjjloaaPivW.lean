/- pivotsOf, reduceBy of the program. No condition but what each theorem names. -/
import Derived.Test.YtfiganobjjjloaaRedW
import Derived.Test.YtfiganobjjjloaaLibW
namespace Go.Proofs.Ytfiganobjjjloaa
set_option linter.unusedVariables false
set_option linter.unusedSimpArgs false
set_option maxRecDepth 20000
open Go.RowKit
set_option maxHeartbeats 2000000
/-- each row's first place whose number is not 0 -/
def pvD (C : Nat) (d : List Int) (m : Nat) : List Int := (List.range m).map fun i => idxI (fun x => x != 0) (sub d (i * C) C)
theorem pvD_succ (C : Nat) (d : List Int) (m : Nat) : pvD C d (m + 1) = pvD C d m ++ [idxI (fun x => x != 0) (sub d (m * C) C)] := by simp [pvD, List.range_succ]
theorem pvD_len (C : Nat) (d : List Int) (m : Nat) : (pvD C d m).length = m := by simp [pvD]
theorem pvD_get {C : Nat} {d : List Int} {m i : Nat} (h : i < m) : gI (pvD C d m) i = idxI (fun x => x != 0) (sub d (i * C) C) := by
  rw [gI_lt (by rw [pvD_len]; exact h)]; simp [pvD]
theorem pivC_any (x : Int) (w : World) :
    Calls Try.prog 141 #[.int .i64 x] w (Qt (.bool (x != 0)) w) := by
  go_enter Try.func141, Try.ntmps141
  go_wp2
  go_ret
  exact ⟨rfl, (by first | exact SameD.refl _ | exact ⟨_, rfl⟩ | exact SameD.two _ _ _ | exact (SameD.two _ _ _).drewN _)⟩
theorem ownsRow_below {w w' : World} {base B : Nat} {e : TypeId} {v : Value} {n : Nat} {xs : List Value} (h : w.ownsRow base e 1 v n xs) (hb : Below B w w') (hB : w.heap.size ≤ B) : w'.ownsRow base e 1 v n xs :=
  ownsRow_keep h fun b _ hs => hb.block b (by omega)
theorem pivotsOf_any {B : Nat} (p : Int) (R C n k : Nat) (A : Option Addr) (d : List Int) (w : World) (h : RdI w B A n d) (hd : Hd A n k) (hB : B ≤ w.heap.size) (hR : R ≤ 100000) (hC : C ≤ 100000) (hl : n = R * C) (hn : n ≤ 1073741824) :
    Calls Try.prog 104 #[.agg #[.int .i64 p, .int .i64 R, .int .i64 C, .slice A n k]] w (RetI (pvD C d R) w) := by
  have HL := Lib.hid hl
  have hW1 : RdI (w.alloc (.cells #[.int .i64 p, .int .i64 R, .int .i64 C, .slice A n k] 26)) B A n d := h.alloc hB _
  have hX1 := Box.new w #[.int .i64 p, .int .i64 R, .int .i64 C, .slice A n k] 26
  clear hl h
  go_enter Try.func104, Try.ntmps104
  go_wp2_with fail
  go_loopw [3, 8] (fun v i wr => ∃ j : Nat, j ≤ R ∧ i = .int .i64 j ∧ wr.ownsRow (w.heap.size + 1) 3 1 v j ((pvD C d j).map (Value.int .i64)) ∧ Below (w.heap.size + 1) (w.alloc (.cells #[.int .i64 p, .int .i64 R, .int .i64 C, .slice A n k] 26)) wr) (fun _ i _ => R - (intOf i).toNat)
  case atStart => exact ⟨0, by omega, rfl, by have := World.ownsRow_lit (base := w.heap.size + 1) (e := 3) (size := 1) (w.alloc (.cells #[.int .i64 p, .int .i64 R, .int .i64 C, .slice A n k] 26)) #[] 0 (by simp) (by unfold maxLen; omega) rfl; simp only [World.size_alloc] at this; exact this, (Below.refl _ _).alloc (by simp) _⟩
  case round =>
    obtain ⟨j, hj, rfl, hT, hB1⟩ := hrel
    have hsz := hB1.size
    rw [World.size_alloc] at hsz
    by_cases hlt : j < R
    · obtain ⟨e1, e2, e3, e4, e5, e6⟩ := row_bd (C := C) hlt
      have hx := hX1.below hB1 (by omega)
      have hr := hW1.below hB1 (by omega)
      obtain ⟨x0, x1, x2, x3⟩ := hx.four
      have hle : j * C + C ≤ n := by rw [HL.out]; exact e6
      have hnn : (R : Int) * C = n := by rw [HL.out, Int.natCast_mul]
      obtain ⟨A', hd', hp', hrun⟩ := part_run (A := A) (n := n) (k := k) (lo := j * C) (hi := j * C + C) ((j : Int) * C) (((j : Int) + 1) * C) (by rw [Int.natCast_mul]) (by rw [← e2, Int.natCast_add, Int.natCast_mul]) hd (by omega) hle
      rw [show j * C + C - j * C = C by omega] at hd' hp' hrun
      have hpr := hp' _ _ _ hr
      have hcn : j + 1 ≤ 1073741824 := by omega
      have HS := Lib.hid (pvD_succ C d j)
      clear hp' e4 e5
      go_wp2_with (first | (go_at_call 140; refine (idx_any A' C _ 141 #[] (fun x => x != 0) _ _ hpr (fun a w => by kernel_rfl) (Lib.hid fun x w' _ => pivC_any x w')).mono ?_; rintro e w1 hq1; obtain ⟨rfl, hb1⟩ := hq1.rv; have hs1 := hb1.size; have hT1 := ownsRow_below hT hb1 (Nat.le_refl _); have hRO := RdI.one w1 (idxI (fun x => x != 0) (sub d (j * C) C)) 3; have hT2 := hT1.alloc (.cells #[.int .i64 (idxI (fun x => x != 0) (sub d (j * C) C))] 3)) | (at_builtin; refine wpList_apI (v := u3) (w := w1.alloc (.cells #[.int .i64 (idxI (fun x => x != 0) (sub d (j * C) C))] 3)) (lo := w.heap.size + 1) (n := j) (xs := pvD C d j) (ys := [idxI (fun x => x != 0) (sub d (j * C) C)]) (m := 1) rfl (.tmp 11) (.tmp 25) rfl rfl hT2 rfl hRO (Hd.self (by unfold maxLen; omega)) hcn (by simp; omega) ?_; intro v2 w3 ho2 hg2 hv2))
      have hB3 := ((hB1.trans (hb1.mono (by omega))).alloc (by omega) (.cells #[.int .i64 (idxI (fun x => x != 0) (sub d (j * C) C))] 3)).grown hg2 (by simp; omega) (fun b e => (hT2.lt b e).1)
      clear hT hT1 hT2 hb1 hg2 hv2 hpr hr hrun hx x0 x1 x2 x3 hRO
      go_wp2
      go_roundw
      case rel => exact ⟨j + 1, by omega, by go_num, by rw [HS.out]; exact ho2, hB3⟩
      case measure => simp [intOf]; omega
    · have hjR : j = R := by omega
      subst hjR
      obtain ⟨A', c', rfl, hd'⟩ := own_hd hT
      have ho := ofOwn' hT (by unfold maxLen; omega)
      have hq : Below w.heap.size w wr := ((Below.refl _ _).alloc (Nat.le_refl _) _).trans (hB1.mono (by omega))
      go_wp2
      go_ret
      exact ⟨_, _, _, rfl, hd', hq, ho.down (by omega)⟩
/-- v less its parts by the rows' pivots, m rows done -/
def rby (C : Nat) (d : List Int) (p : Int) (pc : Nat → Nat) (v : List Int) : Nat → List Int
  | 0 => v
  | i + 1 => if gI (rby C d p pc v i) (pc i) = 0 then rby C d p pc v i else addAt (rby C d p pc v i) 0 (p - gI (rby C d p pc v i) (pc i)) (sub d (i * C) C) p C
theorem rby_len (C : Nat) (d : List Int) (p : Int) (pc : Nat → Nat) (v : List Int) (m : Nat) : (rby C d p pc v m).length = v.length := by
  induction m with
  | zero => rfl
  | succ m ih =>
    simp only [rby]
    split
    · exact ih
    · rw [addAt_len]; exact ih
theorem rby_res {C : Nat} {d : List Int} {p : Int} {pc : Nat → Nat} {v : List Int} (hp : 1 ≤ p) (hC : C ≤ v.length) (hv : ∀ j, 0 ≤ gI v j ∧ gI v j < p) (m : Nat) : ∀ j, 0 ≤ gI (rby C d p pc v m) j ∧ gI (rby C d p pc v m) j < p := by
  induction m with
  | zero => exact hv
  | succ m ih =>
    intro j
    simp only [rby]
    split
    · exact ih j
    · rw [addAt_get _ _ _ _ _ _ (by rw [rby_len]; omega)]
      split
      · exact ⟨Int.emod_nonneg _ (by omega), Int.emod_lt_of_pos _ (by omega)⟩
      · exact ih j
theorem reduceBy_any {B : Nat} (p : Int) (R C n k kv : Nat) (A Av : Option Addr) (d v : List Int) (pc : Nat → Nat) (w : World) (h : RdI w B A n d) (hd : Hd A n k) (hv : RdI w B Av C v) (hdv : Hd Av C kv) (hB : B ≤ w.heap.size) (hR : R ≤ 1000) (hC : C ≤ 1000) (hl : n = R * C) (hp1 : 2 ≤ p) (hp2 : p ≤ 10007) (hr : resB d p = true) (hrv : resB v p = true)
    (hpc : ∀ i, i < R → pc i < C ∧ gI (pvD C d R) i = (pc i : Int)) :
    Calls Try.prog 100 #[.agg #[.int .i64 p, .int .i64 R, .int .i64 C, .slice A n k], .slice Av C kv] w (RetI (rby C d p pc v R) w) := by
  have HL := Lib.hid hl
  have hle : n ≤ 1000000 := by rw [hl]; exact Nat.mul_le_mul hR hC
  have HR := Lib.hid (show ∀ j, 0 ≤ gI d j ∧ gI d j < p from fun j => gI_res (by omega) hr j)
  have HV := Lib.hid (show ∀ m j, 0 ≤ gI (rby C d p pc v m) j ∧ gI (rby C d p pc v m) j < p from fun m => rby_res (by omega) (by rw [hv.1]; exact Nat.le_refl _) (fun j => gI_res (by omega) hrv j) m)
  have HPC := Lib.hid hpc
  have hW1 : RdI (w.alloc (.cells #[.int .i64 p, .int .i64 R, .int .i64 C, .slice A n k] 26)) B A n d := h.alloc hB _
  have hV1 : RdI (w.alloc (.cells #[.int .i64 p, .int .i64 R, .int .i64 C, .slice A n k] 26)) B Av C v := hv.alloc hB _
  have hX1 := Box.new w #[.int .i64 p, .int .i64 R, .int .i64 C, .slice A n k] 26
  clear hl h hv hr hrv hpc
  go_enter Try.func100, Try.ntmps100
  go_wp2_with fail
  refine (clone_any Av C kv v _ hV1 hdv (by simp; omega) (by omega)).mono ?_
  rintro e w1 ⟨A1, n1, c1, rfl, hd1, hb1, ho1⟩
  obtain rfl : C = n1 := by rw [← hV1.1, ho1.1]
  have hs1 := hb1.size
  rw [World.size_alloc] at hs1
  have hx1 := hX1.below hb1 (by simp)
  have hm1 := hW1.below hb1 (by simp; omega)
  obtain ⟨x0, x1, x2, x3⟩ := hx1.four
  go_wp2_with fail
  refine (pivotsOf_any p R C n k A d _ (B := B) hm1 hd (by omega) (by omega) (by omega) HL.out (by omega)).mono ?_
  rintro e w2 ⟨A2, n2, c2, rfl, hd2, hb2, ho2⟩
  obtain rfl : R = n2 := by rw [← ho2.1, pvD_len]
  have hs2 := hb2.size
  clear x0 x1 x2 x3
  have hx2 := hx1.below hb2 (by omega)
  have hm2 := hm1.below hb2 (by omega)
  have ho := ho1.below hb2 (Nat.le_refl _)
  have hq2 : Below w.heap.size w w2 := (by repeat' (first | (with_reducible exact Below.refl _ _) | (with_reducible refine Below.setCell ?_ (by first | exact Nat.le_refl _ | omega | (simp only [World.size_alloc, World.size_setCell, World.heap_drewN]; omega) | (simp; omega)) _) | (with_reducible refine Below.alloc ?_ (by first | exact Nat.le_refl _ | omega | (simp only [World.size_alloc, World.size_setCell, World.heap_drewN]; omega) | (simp; omega)) _) | (with_reducible refine below_drewN ?_ _) | (with_reducible refine Below.drew ?_) | (with_reducible refine Below.trans ?_ (hb2.mono (by first | exact Nat.le_refl _ | omega | (simp only [World.size_alloc, World.size_setCell, World.heap_drewN]; omega) | (simp; omega)))) | (with_reducible refine Below.trans ?_ (hb1.mono (by first | exact Nat.le_refl _ | omega | (simp only [World.size_alloc, World.size_setCell, World.heap_drewN]; omega) | (simp; omega))))))
  clear hx1 hm1 hb2 hb1 hV1 hW1 hX1 ho1
  simp only [World.size_alloc] at ho
  go_wp2_with fail
  go_loopw [13] (fun i wr => ∃ j : Nat, j ≤ R ∧ i = .int .i64 j ∧ wr.heap.size = w2.heap.size ∧ Chg (w.heap.size + 1) w1.heap.size w2 wr ∧ OwI wr (w.heap.size + 1) w1.heap.size A1 C (rby C d p pc v j)) (fun i _ => R - (intOf i).toNat)
  case atStart => exact ⟨0, by omega, rfl, rfl, Chg.refl _ _ _, ho⟩
  case round =>
    clear ho
    obtain ⟨j, hj, rfl, hsz, hch, ho⟩ := hrel
    have HZ := Lib.hid hsz
    clear hsz
    by_cases hlt : j < R
    · obtain ⟨q1, q2⟩ := HPC.out j hlt
      obtain ⟨e1, e2, e3, e4, e5, e6⟩ := row_bd (C := C) hlt
      have hxr := hx2.chg hch (by omega)
      have hmr := hm2.below (hch.below (by omega)) (by omega)
      have hpr : RdI wr w2.heap.size A2 R (pvD C d R) := (ho2.chgHi hch (Nat.le_refl _) (Nat.le_refl _)).rd
      have hle2 : j * C + C ≤ n := by rw [HL.out]; exact e6
      obtain ⟨A', hd', hp', hrun⟩ := part_run (A := A) (n := n) (k := k) (lo := j * C) (hi := j * C + C) ((j : Int) * C) (((j : Int) + 1) * C) (by rw [Int.natCast_mul]) (by rw [← e2, Int.natCast_add, Int.natCast_mul]) hd (by omega) hle2
      rw [show j * C + C - j * C = C by omega] at hd' hp' hrun
      have hpt := hp' _ _ _ hmr
      obtain ⟨bP, oP, rfl⟩ := hpr.addr (by omega)
      have hpe := hpr.at_ hlt
      rw [q2] at hpe
      obtain ⟨bO, oO, rfl⟩ := ho.addr (by omega)
      obtain ⟨hb0, hb1'⟩ := ho.blk (by omega)
      obtain ⟨hoc, hof⟩ := ho.at_ q1
      have hv := HV.out j (pc j)
      obtain ⟨x0, x1, x2, x3⟩ := hxr.four
      have hdis : 0 < C → ∀ b2 o2, A' = some ⟨b2, o2, none⟩ → b2 ≠ bO := by
        intro h0 b2 o2 e
        obtain ⟨b', o', e', hb', _⟩ := hpt.2.2 h0
        rw [e] at e'; injection e' with e'; injection e' with e1 e2; omega
      have hcw : IntKind.i64.wrap (p - gI (rby C d p pc v j) (pc j)) = p - gI (rby C d p pc v j) (pc j) := IntWalk.i64_in _ (by omega)
      have HS := Lib.hid (show rby C d p pc v (j + 1) = if gI (rby C d p pc v j) (pc j) = 0 then rby C d p pc v j else addAt (rby C d p pc v j) 0 (p - gI (rby C d p pc v j) (pc j)) (sub d (j * C) C) p C from rfl)
      clear hp' e4 e5 q2 hmr hpr
      by_cases hz : gI (rby C d p pc v j) (pc j) = 0
      · have hz' : (gI (rby C d p pc v j) (pc j) != 0) = false := by simpa using hz
        have HZ0 := Lib.hid hz
        clear hz
        go_wp2
        go_roundw
        case rel => exact ⟨j + 1, by omega, by go_num, HZ.out, hch, by rw [HS.out, if_pos HZ0.out]; exact ho⟩
        case measure => simp [intOf]; omega
      · have hz' : (gI (rby C d p pc v j) (pc j) != 0) = true := by simpa using hz
        have HZ0 := Lib.hid hz
        clear hz
        have hw1 : IntKind.i64.wrap ((j : Int) + 1) = (j : Int) + 1 := IntWalk.i64_in _ (by omega)
        have hnn : (R : Int) * C = n := by rw [HL.out, Int.natCast_mul]
        have hw2 : IntKind.i64.wrap ((j : Int) * (C : Int)) = (j : Int) * (C : Int) := IntWalk.i64_in _ (by omega)
        have hw3 : IntKind.i64.wrap (((j : Int) + 1) * (C : Int)) = ((j : Int) + 1) * (C : Int) := IntWalk.i64_in _ (by omega)
        go_wp2_with fail
        (refine wp_region_quiet_last (C := fun w' => ∃ nn, w' = wr.drewN nn) 22 (by kernel_rfl) (by kernel_rfl) (by kernel_rfl) (by kernel_rfl) (by kernel_rfl) (by kernel_rfl) (by kernel_rfl) (by kernel_rfl) ⟨1, rfl⟩ ?_; simp only [List.take_succ_cons, List.take_zero, List.drop_succ_cons, List.drop_zero]; (repeat (go_big_quiet_step (fail))); refine wpQuiet_nil ?_; rintro W ⟨nq, rfl⟩)
        go_wp2_with fail
        refine (addTo_any (B0 := w.heap.size + 1) (B := w1.heap.size) bO oO C 0 C c1 (rby C d p pc v j) (p - gI (rby C d p pc v j) (pc j)) A' C _ (sub d (j * C) C) p _ (by exact ho) (by omega) (by exact hpt) (by show B ≤ wr.heap.size; have := HZ.out; omega) hdis (Nat.le_refl _) (by omega) hp2 (by omega) (by omega) (fun t ht => by rw [sub_get ht]; exact HR.out _) (fun t _ => HV.out j _)).mono ?_
        rintro e w6 ⟨rfl, hs6, hc6, ho6⟩
        have hc7 : Chg (w.heap.size + 1) w1.heap.size wr w6 := ((Chg.refl (w.heap.size + 1) w1.heap.size wr).drewN nq).trans (hc6.mono hb0 (by omega))
        go_wp2
        go_roundw
        case rel => exact ⟨j + 1, by omega, by go_num, hs6.trans HZ.out, hch.trans hc7, by rw [HS.out, if_neg HZ0.out]; exact ho6⟩
        case measure => simp [intOf]; omega
    · obtain rfl : R = j := by omega
      have hsz2 := HZ.out
      have hq3 : Below w.heap.size w wr := hq2.trans (hch.below (by omega) |>.mono (by omega))
      go_wp2
      go_ret
      exact ⟨_, _, _, rfl, hd1, hq3, (ho.down (by omega)).up (by omega)⟩
end Go.Proofs.Ytfiganobjjjloaa
