/- IndexFunc over a table, l4Index; value, l4Value. No condition but what each theorem names. -/
import Derived.Test.YtgpejighomohlaaVal
import Derived.Test.YtgpejighomohlaaSrtW
import Derived.Test.YtgpejighomohlaaSub2W
import Derived.Test.YtgpejighomohlaaLibW
namespace Go.Proofs.Ytgpejighomohlaa
set_option linter.unusedVariables false
set_option linter.unusedSimpArgs false
set_option maxRecDepth 20000
open Go.RowKit Go.Sort
set_option maxHeartbeats 4000000
theorem l4Index_any {B : Nat} (N n k : Nat) (A : Option Addr) (xs : List Int) (w : World) (h : RdI w B A n xs) (hB : B ≤ w.heap.size) (hN : N ≤ 7) (hn : n ≤ 8) (hm : xs ∈ subs N n 0) :
    Calls Try.prog 146 #[.int .i64 N, .slice A n k] w (Rv (.int .i64 (idxR (subs N n 0) xs)) w) := by
  have HM := Lib.hid hm
  have hSL : (subs N n 0).length ≤ 5764801 := Nat.le_trans (subs_count N n 0) (pow_bd hN hn)
  clear hm
  go_enter Try.func146, Try.ntmps146
  go_wp2_with fail
  refine (sSubs_any N hN n n 0 0 _ hn (by omega) (Lib.hid rfl) (Lib.hid rfl)).mono ?_
  rintro e w1 ⟨A1, n1, k1, rfl, hd1, hb1, hs1, hT1⟩
  obtain rfl : (subs N n 0).length = n1 := hT1.len
  have hr1 := h.below hb1 hB
  have hsz1 := hb1.size
  have hTr := hT1.rd
  clear hT1 h
  go_wp2_with fail
  go_loopw [6] (fun i wr => ∃ j : Nat, j ≤ (subs N n 0).length ∧ i = .int .i64 j ∧ Hid (∀ t, t < j → row (subs N n 0) t ≠ xs) ∧ SameD w1 wr) (fun i _ => (subs N n 0).length - (intOf i).toNat)
  case atStart => exact ⟨0, by omega, rfl, fun t ht => by omega, SameD.refl _⟩
  case round =>
    obtain ⟨j, hj, rfl, he, q, rfl⟩ := hrel
    by_cases hlt : j < (subs N n 0).length
    · obtain ⟨b, o, rfl, hbT, hcT⟩ := hTr.tbl (by omega)
      have hci := hcT j hlt
      unfold slv at hci
      obtain ⟨hr, hdd⟩ := hTr.rows j hlt
      rcases hz : (row (subs N n 0) j == xs) with _ | _
      all_goals
        have HZ := Lib.hid hz
        clear hz hcT
        go_wp2_with (go_at_call 161; refine (l1Same_any _ A _ _ n k (row (subs N n 0) j) xs _ (B1 := w1.heap.size) (B2 := B) (hr.drewN q) (hr1.drewN q)).mono ?_; rintro e w3 ⟨rfl, q3, rfl⟩; rw [HZ.out])
      · go_roundw
        case rel => exact ⟨j + 1, by omega, by go_num, fun t ht => by
          rcases Nat.lt_or_ge t j with h | h
          · exact he.out t h
          · obtain rfl : t = j := by omega
            have := HZ.out
            simpa using this, (by first | exact SameD.refl _ | exact ⟨_, rfl⟩ | exact SameD.two _ _ _ | exact (SameD.two _ _ _).drewN _)⟩
        case measure => simp [intOf]; omega
      · have HI := Lib.hid (idxR_hit hlt (by have := HZ.out; simpa using this) he.out)
        go_ret
        exact ⟨by rw [HI.out]; rfl, (by repeat' (first | (with_reducible exact Below.refl _ _) | (with_reducible refine Below.setCell ?_ (by first | exact Nat.le_refl _ | omega | (simp only [World.size_alloc, World.size_setCell, World.heap_drewN]; omega) | (simp; omega)) _) | (with_reducible refine Below.alloc ?_ (by first | exact Nat.le_refl _ | omega | (simp only [World.size_alloc, World.size_setCell, World.heap_drewN]; omega) | (simp; omega)) _) | (with_reducible refine below_drewN ?_ _) | (with_reducible refine Below.drew ?_) | (with_reducible refine Below.trans ?_ (hb1.mono (by first | exact Nat.le_refl _ | omega | (simp only [World.size_alloc, World.size_setCell, World.heap_drewN]; omega) | (simp; omega))))))⟩
    · exfalso
      have h1 := idxR_lt HM.out
      have h2 := idxR_row HM.out
      exact he.out _ (by omega) h2
theorem idxT_any {B : Nat} (n c : Nat) (A : Option Addr) (hs : List Hdr) (xss : List (List Int)) (F : FuncId) (cap : Array Value) (xs : List Int) (w : World) (h : RdT w B A n hs xss) (hB : B ≤ w.heap.size)
    (hcf : ∀ (args : Array Value) (w : World), Sem.run Try.prog (callFunc F args) w = .ok (.enter F args) w)
    (hf : Hid (∀ j w', j < n → SameD w w' → Calls Try.prog F (#[slv (hdr hs j)] ++ cap) w' (Qt (.bool (row xss j == xs)) w'))) (hm : xs ∈ xss) :
    Calls Try.prog 148 #[.slice A n c, .func (.func F) #[] cap] w (Qt (.int .i64 (idxR xss xs)) w) := by
  have HM := Lib.hid hm
  have HLN := Lib.hid h.len
  have hmx := h.max
  unfold maxLen at hmx
  have HT := Lib.hid h
  clear hm h
  go_enter Try.func148, Try.ntmps148
  go_wp2_with fail
  go_loopw [8] (fun i wr => ∃ j : Nat, j ≤ n ∧ i = .int .i64 j ∧ Hid (∀ t, t < j → row xss t ≠ xs) ∧ SameD w wr) (fun i _ => n - (intOf i).toNat)
  case atStart => exact ⟨0, by omega, rfl, fun t ht => by omega, SameD.refl _⟩
  case round =>
    obtain ⟨j, hj, rfl, he, q, rfl⟩ := hrel
    by_cases hlt : j < n
    · obtain ⟨b, o, rfl, hbT, hcT⟩ := HT.out.tbl (by omega)
      have hci : (w.drewN q).cell? ⟨b, o + j, none⟩ = some (slv (hdr hs j)) := hcT j hlt
      have hL : j < xss.length := by rw [HLN.out]; exact hlt
      clear hcT
      rcases hz : (row xss j == xs) with _ | _
      · have HZ := Lib.hid hz
        clear hz
        go_wp2_with fail
        refine (hf.out j _ hlt ⟨q, rfl⟩).mono ?_
        rw [HZ.out]
        rintro e w' ⟨rfl, q3, rfl⟩
        go_wp2
        go_roundw
        case rel => exact ⟨j + 1, by omega, by go_num, fun t ht => by
          rcases Nat.lt_or_ge t j with h | h
          · exact he.out t h
          · obtain rfl : t = j := by omega
            have := HZ.out
            simpa using this, (by first | exact SameD.refl _ | exact ⟨_, rfl⟩ | exact SameD.two _ _ _ | exact (SameD.two _ _ _).drewN _)⟩
        case measure => simp [intOf]; omega
      · have HZ := Lib.hid hz
        have HI := Lib.hid (idxR_hit hL (by simpa using hz) he.out)
        clear hz
        go_wp2_with fail
        refine (hf.out j _ hlt ⟨q, rfl⟩).mono ?_
        rw [HZ.out]
        rintro e w' ⟨rfl, q3, rfl⟩
        go_wp2
        go_ret
        exact ⟨by rw [HI.out]; rfl, (by first | exact SameD.refl _ | exact ⟨_, rfl⟩ | exact SameD.two _ _ _ | exact (SameD.two _ _ _).drewN _)⟩
    · exfalso
      have h1 := idxR_lt HM.out
      rw [HLN.out] at h1
      exact he.out _ (by omega) (idxR_row HM.out)
theorem valC_any {B1 B2 : Nat} (g n1 k1 n2 k2 : Nat) (A1 A2 : Option Addr) (ys xs : List Int) (w : World) (h1 : RdI w B1 A1 n1 ys) (h2 : RdI w B2 A2 n2 xs) (hg : w.cell? ⟨g, 0, none⟩ = some (.slice A2 n2 k2)) :
    Calls Try.prog 149 #[.slice A1 n1 k1, .pointer (some ⟨g, 0, none⟩)] w (Qt (.bool (ys == xs)) w) := by
  rcases hz : (ys == xs) with _ | _
  all_goals
    have HZ := Lib.hid hz
    clear hz
    go_enter Try.func149, Try.ntmps149
    go_wp2_with (go_at_call 150; refine (slEqual_any A1 A2 n1 k1 n2 k2 ys xs _ (B1 := B1) (B2 := B2) h1 h2).mono ?_; rintro e w3 ⟨rfl, q3, rfl⟩; rw [HZ.out])
    go_ret
    exact ⟨rfl, (by first | exact SameD.refl _ | exact ⟨_, rfl⟩ | exact SameD.two _ _ _ | exact (SameD.two _ _ _).drewN _)⟩
set_option maxRecDepth 100000 in
theorem value_any {B : Nat} (p : Int) (N n k m km q kq : Nat) (A Av Al : Option Addr) (v l : List Int) (w : World) (hv : RdI w B Av m v) (hl : RdI w B Al q l) (hdl : Hd Al q kq) (hB : B ≤ w.heap.size) (hN : N ≤ 7) (hq : q ≤ 8) (hm : m = (subs N q 0).length) (hp1 : 2 ≤ p) (hp2 : p ≤ 10007) (hrv : ∀ j, 0 ≤ gI v j ∧ gI v j < p) (hrl : ∀ x ∈ l, 0 ≤ x ∧ x < N) :
    Calls Try.prog 92 #[.agg #[.int .i64 p, .int .i64 N, .slice A n k], .slice Av m km, .slice Al q kq] w (Rv (.int .i64 (valV N p v l)) w) := by
  have HRV := Lib.hid hrv
  have hll := hl.1
  have hsb := srtS_bd l
  have hx0 := Box.new w #[.int .i64 p, .int .i64 N, .slice A n k] 82
  have hv0 := hv.alloc hB (.cells #[.int .i64 p, .int .i64 N, .slice A n k] 82)
  have hl0 := hl.alloc hB (.cells #[.int .i64 p, .int .i64 N, .slice A n k] 82)
  have HMM := Lib.hid hm
  have HMS := Lib.hid (show srtS l ≠ 0 → srtL l ∈ subs N q 0 from fun h => by rw [← hll]; exact srt_mem hrl h)
  have HVZ := Lib.hid (show srtS l = 0 → valV N p v l = 0 from fun h => by unfold valV; rw [if_pos h])
  have HVN := Lib.hid (show srtS l ≠ 0 → valV N p v l = srtS l * gI v (idxR (subs N q 0) (srtL l)) % p from fun h => by unfold valV; rw [if_neg h, hll])
  have HSLL := Lib.hid (show srtS l ≠ 0 → (srtL l).length = q from fun h => by
    have := srt_mem hrl h
    rw [hll] at this
    exact subs_len N q 0 _ this)
  generalize hsS : srtS l = s at *
  generalize hsL : srtL l = ys at *
  have HSS := Lib.hid hsS
  have HSL := Lib.hid hsL
  clear hm hrv hrl hll hsS hsL hv hl
  go_enter Try.func92, Try.ntmps92
  go_wp2_with fail
  refine (ordered_any (B := B) q kq Al l _ hl0 hdl (by simp; omega) (by omega)).mono ?_
  rw [HSS.out, HSL.out]
  rintro e w1 ⟨A1, n1, k1, rfl, hd1, hb1, ho1⟩
  have hs1 := hb1.size
  simp only [World.size_alloc] at hs1 ho1
  by_cases hz : s = 0
  · have hz' : (s == 0) = true := by simpa using hz
    have HV := Lib.hid (HVZ.out hz)
    clear hz
    go_wp2
    go_ret
    exact ⟨by rw [HV.out]; rfl, (by repeat' (first | (with_reducible exact Below.refl _ _) | (with_reducible refine Below.setCell ?_ (by first | exact Nat.le_refl _ | omega | (simp only [World.size_alloc, World.size_setCell, World.heap_drewN]; omega) | (simp; omega)) _) | (with_reducible refine Below.alloc ?_ (by first | exact Nat.le_refl _ | omega | (simp only [World.size_alloc, World.size_setCell, World.heap_drewN]; omega) | (simp; omega)) _) | (with_reducible refine below_drewN ?_ _) | (with_reducible refine Below.drew ?_) | (with_reducible refine Below.trans ?_ (hb1.mono (by first | exact Nat.le_refl _ | omega | (simp only [World.size_alloc, World.size_setCell, World.heap_drewN]; omega) | (simp; omega))))))⟩
  · have hz' : (s == 0) = false := by simpa using hz
    have HV := Lib.hid (HVN.out hz)
    have HM := Lib.hid (HMS.out hz)
    obtain rfl : q = n1 := by rw [← ho1.1]; exact (HSLL.out hz).symm
    have hs' : s = 1 ∨ s = -1 := by omega
    clear hz HVZ HVN HMS hsb
    have hx := (hx0.below hb1 (by simp)).alloc (.cells #[.slice A1 q k1] 22)
    have hvr := (hv0.below hb1 (by simp; omega)).alloc (by omega) (.cells #[.slice A1 q k1] 22)
    have hor := ho1.rd.alloc (Nat.le_refl _) (.cells #[.slice A1 q k1] 22)
    have hg := Box.new w1 #[.slice A1 q k1] 22
    have hqq : Below w.heap.size w (w1.alloc (.cells #[.slice A1 q k1] 22)) := (by repeat' (first | (with_reducible exact Below.refl _ _) | (with_reducible refine Below.setCell ?_ (by first | exact Nat.le_refl _ | omega | (simp only [World.size_alloc, World.size_setCell, World.heap_drewN]; omega) | (simp; omega)) _) | (with_reducible refine Below.alloc ?_ (by first | exact Nat.le_refl _ | omega | (simp only [World.size_alloc, World.size_setCell, World.heap_drewN]; omega) | (simp; omega)) _) | (with_reducible refine below_drewN ?_ _) | (with_reducible refine Below.drew ?_) | (with_reducible refine Below.trans ?_ (hb1.mono (by first | exact Nat.le_refl _ | omega | (simp only [World.size_alloc, World.size_setCell, World.heap_drewN]; omega) | (simp; omega))))))
    clear hb1 ho1 hv0 hl0 hx0
    obtain ⟨x0, x1, x2⟩ := hx.three
    go_wp2_with fail
    refine (iSubs_any N hN q q 0 0 _ hq (by omega) (Lib.hid rfl) (Lib.hid rfl)).mono ?_
    rintro e w2 ⟨A2, n2, k2, rfl, hd2, hb2, hs2, hT2⟩
    obtain rfl : (subs N q 0).length = n2 := hT2.len
    have hsz2 := hb2.size
    simp only [World.size_alloc] at hsz2
    have hx := hx.below hb2 (by simp; omega)
    have hvr := hvr.below hb2 (by simp; omega)
    have hor := hor.below hb2 (by simp)
    have hg := hg.below hb2 (by simp)
    have hqq := hqq.trans (hb2.mono (by simp; omega))
    have hTr := hT2.rd
    clear hb2 hT2 x0 x1 x2
    go_wp2_with fail
    refine (idxT_any (B := w2.heap.size) _ k2 A2 hs2 (subs N q 0) 149 #[.pointer (some ⟨w1.heap.size, 0, none⟩)] ys _ hTr (Nat.le_refl _) (fun a w => by kernel_rfl) (Lib.hid fun j w' hj hq' => ?_) HM.out).mono ?_
    · obtain ⟨q', rfl⟩ := hq'
      exact valC_any w1.heap.size _ _ q k1 _ A1 (row (subs N q 0) j) ys _ (((hTr.rows j hj).1).drewN q') (hor.drewN q') (hg.drewN q').one
    rintro e w3 ⟨rfl, q3, rfl⟩
    have HT := Lib.hid (show idxR (subs N q 0) ys < m by rw [HMM.out]; exact idxR_lt HM.out)
    generalize idxR (subs N q 0) ys = t at *
    obtain ⟨wd, hwd⟩ : ∃ wd : World, wd = w2.drewN q3 := ⟨_, rfl⟩
    have hx : Box wd w.heap.size _ := hwd ▸ hx.drewN q3
    have hvr : RdI wd B Av m v := hwd ▸ hvr.drewN q3
    have hqq : Below w.heap.size w wd := hwd ▸ below_drewN hqq q3
    rw [← hwd]
    clear hwd hor hg hTr hd2
    have htl := HT.out
    obtain ⟨bv, ov, rfl⟩ := hvr.addr (by omega)
    have hcv := hvr.at_ htl
    have vb := HRV.out t
    obtain ⟨x0, x1, x2⟩ := hx.three
    have q0 := cell_regrown x0
    have q1 := cell_regrown hcv
    obtain ⟨y, hy⟩ : ∃ y, y = gI v t := ⟨_, rfl⟩
    rw [← hy] at HV vb q1
    have hsy : -10007 ≤ s * y ∧ s * y ≤ 10007 := by rcases hs' with e | e <;> rw [e] <;> omega
    have hwr : IntKind.i64.wrap (s * y) = s * y := IntWalk.i64_in _ (by omega)
    have cM : ∀ d os, Calls Try.prog 93 #[.int .i64 (s * y), .int .i64 p] (grow (redrawn wd d) os) fun e w'' => e = .returned (.int .i64 (s * y % p)) ∧ ∃ p : Regrown, w'' = grow (redrawn wd p.d) p.os :=
      fun d os => Calls.regrown_of ((mod_any (s * y) p _ (by omega) (by omega)).mono fun _ _ ⟨a, b⟩ => ⟨a, b ▸ Below.refl _ _⟩)
    clear x0 x1 x2 hcv hy hvr hx
    go_wp2_with fail
    (refine wp_region_quiet_below (w := wd) (by kernel_rfl) (by kernel_rfl) ?_; (repeat (go_big_quiet_step (with_reducible exact cM _ _))); refine wpQuiet_nil ?_; rintro W ⟨pp, hW⟩; have hbW : Below wd.heap.size wd W := hW ▸ below_regrown _ _ _; clear hW)
    clear q0 q1 cM hwr
    have hsd := hqq.size
    go_wp2
    go_ret
    exact ⟨by rw [HV.out]; rfl, (by repeat' (first | (with_reducible exact Below.refl _ _) | (with_reducible refine Below.setCell ?_ (by first | exact Nat.le_refl _ | omega | (simp only [World.size_alloc, World.size_setCell, World.heap_drewN]; omega) | (simp; omega)) _) | (with_reducible refine Below.alloc ?_ (by first | exact Nat.le_refl _ | omega | (simp only [World.size_alloc, World.size_setCell, World.heap_drewN]; omega) | (simp; omega)) _) | (with_reducible refine below_drewN ?_ _) | (with_reducible refine Below.drew ?_) | (with_reducible refine Below.trans ?_ (hbW.mono (by first | exact Nat.le_refl _ | omega | (simp only [World.size_alloc, World.size_setCell, World.heap_drewN]; omega) | (simp; omega)))) | (with_reducible refine Below.trans ?_ (hqq.mono (by first | exact Nat.le_refl _ | omega | (simp only [World.size_alloc, World.size_setCell, World.heap_drewN]; omega) | (simp; omega))))))⟩
set_option maxRecDepth 100000 in
theorem l4Value_any {B : Nat} (p : Int) (N n k m km q kq : Nat) (A Av Al : Option Addr) (v l : List Int) (w : World) (hv : RdI w B Av m v) (hl : RdI w B Al q l) (hdl : Hd Al q kq) (hB : B ≤ w.heap.size) (hN : N ≤ 7) (hq : q ≤ 8) (hm : m = (subs N q 0).length) (hp1 : 2 ≤ p) (hp2 : p ≤ 10007) (hrv : ∀ j, 0 ≤ gI v j ∧ gI v j < p) (hrl : ∀ x ∈ l, 0 ≤ x ∧ x < N) :
    Calls Try.prog 87 #[.agg #[.int .i64 p, .int .i64 N, .slice A n k], .slice Av m km, .slice Al q kq] w (Rv (.int .i64 (valV N p v l)) w) := by
  have HRV := Lib.hid hrv
  have hll := hl.1
  have hsb := srtS_bd l
  have hx0 := Box.new w #[.int .i64 p, .int .i64 N, .slice A n k] 27
  have hv0 := hv.alloc hB (.cells #[.int .i64 p, .int .i64 N, .slice A n k] 27)
  have hl0 := hl.alloc hB (.cells #[.int .i64 p, .int .i64 N, .slice A n k] 27)
  have HMM := Lib.hid hm
  have HMS := Lib.hid (show srtS l ≠ 0 → srtL l ∈ subs N q 0 from fun h => by rw [← hll]; exact srt_mem hrl h)
  have HVZ := Lib.hid (show srtS l = 0 → valV N p v l = 0 from fun h => by unfold valV; rw [if_pos h])
  have HVN := Lib.hid (show srtS l ≠ 0 → valV N p v l = srtS l * gI v (idxR (subs N q 0) (srtL l)) % p from fun h => by unfold valV; rw [if_neg h, hll])
  have HSLL := Lib.hid (show srtS l ≠ 0 → (srtL l).length = q from fun h => by
    have := srt_mem hrl h
    rw [hll] at this
    exact subs_len N q 0 _ this)
  generalize hsS : srtS l = s at *
  generalize hsL : srtL l = ys at *
  have HSS := Lib.hid hsS
  have HSL := Lib.hid hsL
  clear hm hrv hrl hll hsS hsL hv hl
  go_enter Try.func87, Try.ntmps87
  go_wp2_with fail
  refine (l4Sorted_any (B := B) q kq Al l _ hl0 hdl (by simp; omega) (by omega)).mono ?_
  rw [HSS.out, HSL.out]
  rintro e w1 ⟨A1, n1, k1, rfl, hd1, hb1, ho1⟩
  have hs1 := hb1.size
  simp only [World.size_alloc] at hs1 ho1
  by_cases hz : s = 0
  · have hz' : (s == 0) = true := by simpa using hz
    have HV := Lib.hid (HVZ.out hz)
    clear hz
    go_wp2
    go_ret
    exact ⟨by rw [HV.out]; rfl, (by repeat' (first | (with_reducible exact Below.refl _ _) | (with_reducible refine Below.setCell ?_ (by first | exact Nat.le_refl _ | omega | (simp only [World.size_alloc, World.size_setCell, World.heap_drewN]; omega) | (simp; omega)) _) | (with_reducible refine Below.alloc ?_ (by first | exact Nat.le_refl _ | omega | (simp only [World.size_alloc, World.size_setCell, World.heap_drewN]; omega) | (simp; omega)) _) | (with_reducible refine below_drewN ?_ _) | (with_reducible refine Below.drew ?_) | (with_reducible refine Below.trans ?_ (hb1.mono (by first | exact Nat.le_refl _ | omega | (simp only [World.size_alloc, World.size_setCell, World.heap_drewN]; omega) | (simp; omega))))))⟩
  · have hz' : (s == 0) = false := by simpa using hz
    have HV := Lib.hid (HVN.out hz)
    have HM := Lib.hid (HMS.out hz)
    obtain rfl : q = n1 := by rw [← ho1.1]; exact (HSLL.out hz).symm
    have hs' : s = 1 ∨ s = -1 := by omega
    clear hz HVZ HVN HMS hsb
    have hx := hx0.below hb1 (by simp)
    have hvr := hv0.below hb1 (by simp; omega)
    have hor := ho1.rd
    have hqq : Below w.heap.size w w1 := (by repeat' (first | (with_reducible exact Below.refl _ _) | (with_reducible refine Below.setCell ?_ (by first | exact Nat.le_refl _ | omega | (simp only [World.size_alloc, World.size_setCell, World.heap_drewN]; omega) | (simp; omega)) _) | (with_reducible refine Below.alloc ?_ (by first | exact Nat.le_refl _ | omega | (simp only [World.size_alloc, World.size_setCell, World.heap_drewN]; omega) | (simp; omega)) _) | (with_reducible refine below_drewN ?_ _) | (with_reducible refine Below.drew ?_) | (with_reducible refine Below.trans ?_ (hb1.mono (by first | exact Nat.le_refl _ | omega | (simp only [World.size_alloc, World.size_setCell, World.heap_drewN]; omega) | (simp; omega))))))
    have hlt1 : B ≤ w1.heap.size := by omega
    clear hb1 ho1 hv0 hl0 hx0
    have HT := Lib.hid (show idxR (subs N q 0) ys < m by rw [HMM.out]; exact idxR_lt HM.out)
    have cI : ∀ d os, Calls Try.prog 146 #[.int .i64 N, .slice A1 q k1] (grow (redrawn w1 d) os) fun e w'' => e = .returned (.int .i64 (idxR (subs N q 0) ys)) ∧ ∃ p : Regrown, w'' = grow (redrawn w1 p.d) p.os :=
      fun d os => Calls.regrown_of (l4Index_any (B := w1.heap.size) N q k1 A1 ys _ (hor.below (below_regrown w1 d os) (Nat.le_refl _)) (below_regrown w1 d os).size hN hq HM.out)
    generalize idxR (subs N q 0) ys = t at *
    have htl := HT.out
    obtain ⟨bv, ov, rfl⟩ := hvr.addr (by omega)
    have hcv := hvr.at_ htl
    have vb := HRV.out t
    obtain ⟨x0, x1, x2⟩ := hx.three
    have q0 := cell_regrown x0
    have q1 := cell_regrown x1
    have q2 := cell_regrown hcv
    obtain ⟨y, hy⟩ : ∃ y, y = gI v t := ⟨_, rfl⟩
    rw [← hy] at HV vb q2
    have hsy : -10007 ≤ s * y ∧ s * y ≤ 10007 := by rcases hs' with e | e <;> rw [e] <;> omega
    have hwr : IntKind.i64.wrap (s * y) = s * y := IntWalk.i64_in _ (by omega)
    have cM : ∀ d os, Calls Try.prog 88 #[.int .i64 (s * y), .int .i64 p] (grow (redrawn w1 d) os) fun e w'' => e = .returned (.int .i64 (s * y % p)) ∧ ∃ p : Regrown, w'' = grow (redrawn w1 p.d) p.os :=
      fun d os => Calls.regrown_of ((l1Mod_any (s * y) p _ (by omega) (by omega)).mono fun _ _ ⟨a, b⟩ => ⟨a, b ▸ Below.refl _ _⟩)
    clear x0 x1 x2 hcv hy hvr hx hor
    go_wp2_with fail
    (refine wp_region_quiet_below (w := w1) (by kernel_rfl) (by kernel_rfl) ?_; (repeat (go_big_quiet_step (first | with_reducible exact cM _ _ | with_reducible exact cI _ _))); refine wpQuiet_nil ?_; rintro W ⟨pp, hW⟩; have hbW : Below w1.heap.size w1 W := hW ▸ below_regrown _ _ _; clear hW)
    clear q0 q1 q2 cM cI hwr
    go_wp2
    go_ret
    exact ⟨by rw [HV.out]; rfl, (by repeat' (first | (with_reducible exact Below.refl _ _) | (with_reducible refine Below.setCell ?_ (by first | exact Nat.le_refl _ | omega | (simp only [World.size_alloc, World.size_setCell, World.heap_drewN]; omega) | (simp; omega)) _) | (with_reducible refine Below.alloc ?_ (by first | exact Nat.le_refl _ | omega | (simp only [World.size_alloc, World.size_setCell, World.heap_drewN]; omega) | (simp; omega)) _) | (with_reducible refine below_drewN ?_ _) | (with_reducible refine Below.drew ?_) | (with_reducible refine Below.trans ?_ (hbW.mono (by first | exact Nat.le_refl _ | omega | (simp only [World.size_alloc, World.size_setCell, World.heap_drewN]; omega) | (simp; omega)))) | (with_reducible refine Below.trans ?_ (hqq.mono (by first | exact Nat.le_refl _ | omega | (simp only [World.size_alloc, World.size_setCell, World.heap_drewN]; omega) | (simp; omega))))))⟩
end Go.Proofs.Ytgpejighomohlaa
