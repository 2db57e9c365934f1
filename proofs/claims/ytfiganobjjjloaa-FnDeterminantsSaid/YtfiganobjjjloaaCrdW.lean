/- newBasis of the program, on the rows of a square matrix. No condition but what each theorem names. -/
import Derived.Test.YtfiganobjjjloaaIvm
import Derived.Test.YtfiganobjjjloaaSolW
import Derived.Test.YtfiganobjjjloaaLibW
import Derived.Test.YtfiganobjjjloaaL1SpW
import Derived.Deep.RegionLaw
import Derived.Outline
namespace Go.Proofs.Ytfiganobjjjloaa
set_option linter.unusedVariables false
set_option linter.unusedSimpArgs false
set_option maxRecDepth 20000
open Go.RowKit Go.Sort
set_option maxHeartbeats 8000000
theorem own_down {w : World} {lo lo' size n : Nat} {e : TypeId} {v : Value} {xs : List Value} (h : w.ownsRow lo e size v n xs) (hl : lo' ≤ lo) : w.ownsRow lo' e size v n xs := by
  refine ⟨h.1, ?_⟩
  rcases h.2 with h1 | ⟨g', cap, cur, e1, h0, r⟩
  · exact .inl h1
  · exact .inr ⟨g', cap, cur, e1, by omega, r⟩
theorem own_keep2 {w w' : World} {lo size n : Nat} {e : TypeId} {v : Value} {xs : List Value} (h : w.ownsRow lo e size v n xs) (hk : ∀ b, lo ≤ b → b < w.heap.size → w'.heap[b]? = w.heap[b]?) : w'.ownsRow lo e size v n xs := by
  refine ⟨h.1, ?_⟩
  rcases h.2 with h1 | ⟨g', cap, cur, e1, h0, hg, r⟩
  · exact .inl h1
  · have hlt : g' < w.heap.size := by
      rcases Nat.lt_or_ge g' w.heap.size with h | h
      · exact h
      · rw [Array.getElem?_eq_none h] at hg; cases hg
    exact .inr ⟨g', cap, cur, e1, h0, (hk g' h0 hlt).trans hg, r⟩
theorem bel_od {w w' : World} (h : Below w.drew.heap.size w.drew w') : Below w.heap.size w w' := ⟨h.os, h.tape, h.output, h.size, h.block⟩
/-- the rows beside the unit rows -/
def nbL (N : Nat) (d : List Int) (m : Nat) : List (List Int) := (List.range m).map fun i => (List.range (N + N)).map (ivF N d i)
theorem nbL_succ (N : Nat) (d : List Int) (m : Nat) : nbL N d (m + 1) = nbL N d m ++ [(List.range (N + N)).map (ivF N d m)] := by simp [nbL, List.range_succ]
theorem nb_row {N : Nat} {d r : List Int} {i : Nat} (hi : i < N) (hl : r.length = N) (hr : ∀ j, j < N → gI r j = matF d N i j) : r ++ unitV N i = (List.range (N + N)).map (ivF N d i) := by
  refine ext_gI (by simp [hl, unitV_len]) fun j hj => ?_
  rw [List.length_append, hl, unitV_len] at hj
  rw [map_at hj, ivF]
  by_cases h : j < N
  · rw [if_pos h, ← show matF d N i j = gI d (i * N + j) from rfl, ← hr j h]
    unfold gI
    simp [List.getElem?_append, hl, h]
  · rw [if_neg h]
    have e : gI (r ++ unitV N i) j = gI (unitV N i) (j - N) := by
      unfold gI
      simp [List.getElem?_append, hl, h]
    rw [e, unitV_get hi]
    by_cases h2 : j = N + i
    · rw [if_pos (by omega), if_pos h2]
    · rw [if_neg (by omega), if_neg h2]
theorem nb_FF (N : Nat) (d : List Int) : FF (nbL N d N) N (N + N) (ivF N d) := by
  intro i hi
  have e : row (nbL N d N) i = (List.range (N + N)).map (ivF N d i) := by rw [row_lt (by simpa [nbL] using hi)]; simp [nbL]
  rw [e]
  exact ⟨by simp, fun j hj => map_at hj⟩
/-- a basis of the program's own -/
def RetBas (p : Int) (N : Nat) (f : Tb) (pv : List Nat) (b : Bool) (w : World) (e : Ending) (w' : World) : Prop :=
  ∃ (At Ap : Option Addr) (kt kp : Nat) (hs : List Hdr) (xss : List (List Int)), e = .returned (.agg #[.bool b, .int .i64 p, .int .i64 N, .int .i64 N, .slice At N kt, .slice Ap pv.length kp]) ∧ Hd At N kt ∧ Hd Ap pv.length kp ∧ Below w.heap.size w w' ∧
    OwT w' w.heap.size w'.heap.size (.slice At N kt) N hs xss ∧ FF xss N (N + N) f ∧ OwI w' w.heap.size w'.heap.size Ap pv.length (pvI pv)
def pvLow (N : Nat) (l : List Nat) : List Nat := l.filter fun x => decide (x < N)
theorem pvLow_take {N t : Nat} {l : List Nat} (h : t < l.length) : pvLow N (l.take (t + 1)) = if pg l t < N then pvLow N (l.take t) ++ [pg l t] else pvLow N (l.take t) := by
  have e : l.take (t + 1) = l.take t ++ [pg l t] := by rw [List.take_succ_eq_append_getElem h, pg_lt h]
  rw [e, pvLow, List.filter_append]
  by_cases hc : pg l t < N
  · rw [if_pos hc]; simp [hc, pvLow]
  · rw [if_neg hc]; simp [hc, pvLow]
theorem pvI_snoc (l : List Nat) (x : Nat) : pvI (l ++ [x]) = pvI l ++ [(x : Int)] := by simp [pvI]
set_option maxRecDepth 100000 in
theorem newBasis_any {B : Nat} (p : Int) (N k : Nat) (A : Option Addr) (d : List Int) (hs : List Hdr) (xss : List (List Int)) (w : World) (h : RdT w B A N hs xss) (hF : FF xss N N (matF d N)) (hB : B ≤ w.heap.size) (hN : N ≤ 40) (hp : isP p = true) (hr : resB d p = true) :
    Calls Try.prog 65 #[.slice A N k, .int .i64 N, .int .i64 p] w (RetBas p N (ivS N p d).f (pvLow N (ivS N p d).pv) (ivB N p d) w) := by
  obtain ⟨hp1, hp2⟩ := isP_bd hp
  have HP := Lib.hid hp
  have HL := Lib.hid h.len
  have HFF := Lib.hid hF
  have HIR := Lib.hid (ivF_res (n := N) (p := p) (d := d) (by omega) hr)
  have HBC := Lib.hid (iv_count (n := N) hp hr)
  have HLN := Lib.hid (iv_len (n := N) hp hr)
  have HNB := Lib.hid (nb_FF N d)
  have HPV := Lib.hid (rr_pv N p (ivF N d) (N + N))
  have hz0 := (Box.new w #[.bool false, .int .i64 0, .int .i64 0, .int .i64 0, .slice none 0 0, .slice none 0 0] 77).alloc (.cells #[.bool false, .int .i64 p, .int .i64 N, .int .i64 N, .slice none 0 0, .slice none 0 0] 77)
  have hx0 := Box.new (w.alloc (.cells #[.bool false, .int .i64 0, .int .i64 0, .int .i64 0, .slice none 0 0, .slice none 0 0] 77)) #[.bool false, .int .i64 p, .int .i64 N, .int .i64 N, .slice none 0 0, .slice none 0 0] 77
  rw [World.size_alloc] at hx0
  have hq0 : Below w.heap.size w ((w.alloc (.cells #[.bool false, .int .i64 0, .int .i64 0, .int .i64 0, .slice none 0 0, .slice none 0 0] 77)).alloc (.cells #[.bool false, .int .i64 p, .int .i64 N, .int .i64 N, .slice none 0 0, .slice none 0 0] 77)) := (by repeat' (first | (with_reducible exact Below.refl _ _) | (with_reducible refine Below.setCell ?_ (by first | exact Nat.le_refl _ | omega | (simp only [World.size_alloc, World.size_setCell, World.heap_drewN]; omega) | (simp; omega)) _) | (with_reducible refine Below.alloc ?_ (by first | exact Nat.le_refl _ | omega | (simp only [World.size_alloc, World.size_setCell, World.heap_drewN]; omega) | (simp; omega)) _) | (with_reducible refine below_drewN ?_ _) | (with_reducible refine Below.drew ?_)))
  obtain ⟨bb, hbb⟩ : ∃ bb, bb = ivB N p d := ⟨_, rfl⟩
  rw [← hbb] at HBC ⊢
  generalize hs0 : ivS N p d = s at *
  have HS0 := Lib.hid hs0
  clear hF hp hr hs0 hbb
  go_enter Try.func65, Try.ntmps65
  go_wp2_with fail
  have hsW : ((w.alloc (.cells #[.bool false, .int .i64 0, .int .i64 0, .int .i64 0, .slice none 0 0, .slice none 0 0] 77)).alloc (.cells #[.bool false, .int .i64 p, .int .i64 N, .int .i64 N, .slice none 0 0, .slice none 0 0] 77)).heap.size = w.heap.size + 2 := by simp
  generalize ((w.alloc (.cells #[.bool false, .int .i64 0, .int .i64 0, .int .i64 0, .slice none 0 0, .slice none 0 0] 77)).alloc (.cells #[.bool false, .int .i64 p, .int .i64 N, .int .i64 N, .slice none 0 0, .slice none 0 0] 77)) = W0 at *
  go_loopw [19] (fun ii wr => ∃ (j hi : Nat) (vr : Value) (hs' : List Hdr), j ≤ N ∧ ii = .int .i64 (j : Int) ∧ Box wr w.heap.size #[.bool false, .int .i64 0, .int .i64 0, .int .i64 0, .slice none 0 0, .slice none 0 0] ∧ Box wr (w.heap.size + 1) #[.bool false, .int .i64 p, .int .i64 N, .int .i64 N, vr, .slice none 0 0] ∧ OwT wr (w.heap.size + 2) hi vr j hs' (nbL N d j) ∧ hi ≤ wr.heap.size ∧ w.heap.size + 2 ≤ wr.heap.size ∧ Below w.heap.size w wr) (fun ii _ => N - (intOf ii).toNat)
  case atStart => exact ⟨0, 0, _, [], by omega, rfl, hz0, hx0, OwT.nil _ _ _, by omega, by omega, hq0⟩
  case round =>
    clear hz0 hx0 hq0
    obtain ⟨j, hi, vr, hs', hj, rfl, hbz, hbx, hT, hhi, hsz, hB1⟩ := hrel
    by_cases hlt : j < N
    · obtain ⟨b, o, rfl, hb, hc⟩ := h.tbl (by omega)
      have hcj := (hB1.cell (p := ⟨b, o + j, none⟩) (by show b < _; omega)).trans (hc j hlt)
      unfold slv at hcj
      obtain ⟨hr0, hd⟩ := h.rows j hlt
      have hr := hr0.below hB1 hB
      have hrl : (row xss j).length = N := (HFF.out j hlt).1
      have hlen : (hdr hs j).2.1 = N := by rw [← hr0.1]; exact hrl
      have hlen' : (hdr hs j).2.1 ≤ 1073741824 := by omega
      have HRW := Lib.hid (nb_row hlt hrl (HFF.out j hlt).2)
      have HTS := Lib.hid (nbL_succ N d j)
      have HRL := Lib.hid hrl
      have hcn : j ≤ 1073741824 := by omega
      have hBr : B ≤ wr.heap.size := by omega
      have hbc : Below wr.heap.size wr wr := Below.refl _ _
      have hTc := hT
      have hbxc := hbx
      have hsc : wr.heap.size ≤ wr.heap.size := Nat.le_refl _
      have hunl : (unitV N j).length = N := unitV_len _ _
      have HUL := Lib.hid hunl
      have y4 : wr.cell? ⟨w.heap.size + 1, 4, none⟩ = some vr := hbx.cell rfl
      have yf := hbx.fz
      clear hc hr0 hlen hrl hunl
      go_wp2_with fail
      go_region_law (first
        | (go_simp; go_at_call 129; refine (clone_own _ _ _ (row xss j) _ (by exact hr) hd (by first | exact hBr | (rw [size_drew]; exact hBr)) hlen').mono ?_; rintro e wc ⟨v1, rfl, ho1, hb1⟩; rw [HRL.out] at ho1; have ho1 := own_down ho1 (by first | exact hsc | (rw [size_drew]; exact hsc)); (try have hou' := hou); have hb1 := (by first | with_reducible exact bel_od hb1 | exact hb1 : Below _ _ wc); have hs1 := hb1.size; have hr := hr.below hb1 hBr; have hBr : B ≤ wc.heap.size := (by omega); have hTc := hTc.below hb1 (by omega); have hbxc := hbxc.below hb1 (by have := hbxc.lt; omega); have y4 : wc.cell? ⟨w.heap.size + 1, 4, none⟩ = some vr := hbxc.cell rfl; have yf := hbxc.fz; have hbc := hbc.trans (hb1.mono hsc); have hsc : wr.heap.size ≤ wc.heap.size := (by omega); (try have hou := hou.below hb1 (Nat.le_refl _)))
        | (go_simp; go_at_call 68; refine (unit_any N j _ (by omega) hlt).mono ?_; rintro e wc ⟨Au, nu, cu, rfl, hdu, hb1, hou⟩; have hou := hou.rd; obtain rfl : N = nu := (by have := hou.1; rw [HUL.out] at this; exact this); (try have ho1 := ownsRow_keep ho1 (fun b _ h => hb1.block b h)); have hb1 := (by first | with_reducible exact bel_od hb1 | exact hb1 : Below _ _ wc); have hs1 := hb1.size; have hr := hr.below hb1 hBr; have hBr : B ≤ wc.heap.size := (by omega); have hTc := hTc.below hb1 (by omega); have hbxc := hbxc.below hb1 (by have := hbxc.lt; omega); have y4 : wc.cell? ⟨w.heap.size + 1, 4, none⟩ = some vr := hbxc.cell rfl; have yf := hbxc.fz; have hbc := hbc.trans (hb1.mono hsc); have hsc : wr.heap.size ≤ wc.heap.size := (by omega))
        | (refine step_apI (v := v1) (lo := wr.heap.size) (n := N) (xs := row xss j) (ys := unitV N j) (m := N) rfl (.tmp 27) (.tmp 31) rfl rfl ho1 rfl hou hdu (by omega) hsc ?_; intro v2 wc ho2 hg2 hv2q; obtain ⟨A2, c2, rfl, hd2⟩ := own_hd ho2; have hlo1 := fun b e => (ho1.lt b e).1; have hb2 := hbc.grown hg2 hsc (fun q e => hlo1 q e); have hs2 := hg2.size; rw [HRW.out] at ho2; have hor := ofOwn' ho2 (by unfold maxLen; omega); have hTc := hT.below hb2 hhi; have hbxc := hbx.below hb2 hbx.lt; have y4 : wc.cell? ⟨w.heap.size + 1, 4, none⟩ = some vr := hbxc.cell rfl; have yf := hbxc.fz; have hbc := hb2; have hsc : wr.heap.size ≤ wc.heap.size := (by omega); have y4a : (wc.alloc (.cells #[.slice A2 (N + N) c2] 22)).cell? ⟨w.heap.size + 1, 4, none⟩ = some vr := (hbxc.alloc _).cell rfl)
        | (refine step_apT (v := vr) (w := wc.alloc (.cells #[.slice A2 (N + N) c2] 22)) (lo := w.heap.size + 2) (b := wc.heap.size) (u := .slice A2 (N + N) c2) rfl (.tmp 25) (.tmp 33) rfl rfl (hTc.alloc (by omega) _).tbl rfl (Box.new wc _ _).one rfl hcn (by rw [World.size_alloc]; omega) ?_; intro v5 w5 ho5 hg5 hv5q; have hpp := hT.pushed hhi hbc hor (Nat.le_refl _) hd2 (by omega) ho5 hg5 hv5q; obtain ⟨A5, c5, rfl, hd5⟩ := hpp.1.hd; have hbx5 := hbx.below hpp.2 (by omega); have y4 : w5.cell? ⟨w.heap.size + 1, 4, none⟩ = some vr := hbx5.cell rfl; have yf := hbx5.fz))
      all_goals
        obtain ⟨hT5, hB5⟩ := hpp
        have hbz5 := hbz.below hB5 (by omega)
        have hB15 := hB1.trans (hB5.mono (by omega))
        have hsz5 := hB5.size
        have HT := Lib.hid (show OwT (w5.setCell ⟨w.heap.size + 1, 4, none⟩ (.slice A5 (j + 1) c5)) (w.heap.size + 2) w5.heap.size (.slice A5 (j + 1) c5) (j + 1) _ (nbL N d (j + 1)) by rw [HTS.out]; exact hT5.keep fun b hl _ _ => Below.heap_setCell _ _ _ _ (by show b ≠ w.heap.size + 1; omega))
        have HBX := Lib.hid (hbx5.set 4 (.slice A5 (j + 1) c5))
        have HBZ := Lib.hid (hbz5.other (p := ⟨w.heap.size + 1, 4, none⟩) (by show w.heap.size ≠ w.heap.size + 1; omega) (.slice A5 (j + 1) c5))
        have HB := Lib.hid (hB15.setCell (p := ⟨w.heap.size + 1, 4, none⟩) (by show w.heap.size ≤ w.heap.size + 1; omega) (.slice A5 (j + 1) c5))
        clear hT5 hTc hT hbx5 hbxc hbx hbz hbz5 hB15 hB5 hB1 hbc hor hr ho2 ho5 hg2 hg5 hv2q hv5q ho1 hou
        go_wp2
        go_roundw
        case rel => exact ⟨j + 1, _, _, _, by omega, by go_num, HBZ.out, HBX.out, HT.out, by simp, by simp; omega, HB.out⟩
        case measure => simp [intOf]; omega
    · obtain rfl : j = N := by omega
      obtain ⟨At, kt, rfl, hdt⟩ := hT.hd
      obtain ⟨C, hC⟩ : ∃ C, C = j + j := ⟨_, rfl⟩
      have hCi : (j : Int) + (j : Int) = (C : Int) := by omega
      have hCw : IntKind.i64.wrap ((j : Int) + (j : Int)) = (C : Int) := by rw [hCi]; exact IntWalk.i64_in _ (by omega)
      have HRD := Lib.hid (fun (hh : True) => reduce_any (lo := w.heap.size + 2) (hi := hi) (.slice At j kt) j C p (ivF j d) hs' (nbL j d j) wr hT (by rw [hC]; exact HNB.out) hhi (by omega) (by omega) HP.out HIR.out)
      have HSC := Lib.hid (show rr j p (ivF j d) C = s by rw [hC]; exact HS0.out)
      have hrk : s.rk = j := by
        have e := (rr_rk j p (ivF j d) (j + j)).2
        rw [show rr j p (ivF j d) (j + j) = s from HS0.out, HLN.out] at e; exact e.symm
      unfold RetRed at HRD
      rw [HSC.out, hrk] at HRD
      have HC := Lib.hid hC
      have HRK := Lib.hid hrk
      have y4 : wr.cell? ⟨w.heap.size + 1, 4, none⟩ = some (.slice At j kt) := hbx.cell rfl
      clear hC hrk hT
      go_wp2_with fail
      refine (HRD.out trivial).mono ?_
      rintro e w2 ⟨A2, k2, rfl, hd2, hch, ⟨hs2, xss2, hT2, hF2⟩, ho2⟩
      have hsz2 := hch.size
      have hbz2 := hbz.chg hch (.inl (by omega))
      have hbx2 := hbx.chg hch (.inl (by omega))
      have hB2 := hB1.trans ((hch.below (by omega)).mono (by omega))
      have HF2 := Lib.hid hF2
      clear HRD y4 hch hF2 hbz hbx hB1
      go_wp2_with fail
      go_loopw [46] (fun ii wr => ∃ (t L : Nat) (vp : Value), t ≤ j ∧ ii = .int .i64 (t : Int) ∧ Hid ((pvLow j (s.pv.take t)).length = L) ∧ L ≤ t ∧ Box wr (w.heap.size + 1) #[.bool false, .int .i64 p, .int .i64 j, .int .i64 j, .slice At j kt, vp] ∧ wr.ownsRow w2.heap.size 3 1 vp L ((pvI (pvLow j (s.pv.take t))).map (Value.int .i64)) ∧ Chg (w.heap.size + 1) (w.heap.size + 2) w2 wr) (fun ii _ => j - (intOf ii).toNat)
      case atStart => exact ⟨0, 0, _, by omega, rfl, Lib.hid rfl, by omega, hbx2, World.ownsRow_nil _ _ _ _, Chg.refl _ _ _⟩
      case round =>
        clear hbx2
        obtain ⟨t, L, vp, ht, rfl, HLL, hLt, hbx, hop, hch⟩ := hrel
        have hsz3 := hch.size
        by_cases hlt2 : t < j
        · have hro := (ho2.chgHi hch (by omega) (Nat.le_refl _)).rd
          obtain ⟨b6, o6, rfl⟩ := hro.addr (by omega)
          have hpl : t < s.pv.length := by rw [HLN.out]; exact hlt2
          have hpc := hro.at_ hlt2
          rw [pvI_get hpl] at hpc
          have HPT := Lib.hid (pvLow_take (N := j) hpl)
          have hcn : L + 1 ≤ 1073741824 := by omega
          obtain ⟨x, hx⟩ : ∃ x, x = pg s.pv t := ⟨_, rfl⟩
          rw [← hx] at hpc HPT
          clear hx hpl hro
          have y5 : wr.cell? ⟨w.heap.size + 1, 5, none⟩ = some vp := hbx.cell rfl
          by_cases hxj : x < j
          · have hT2 := own_keep2 hop (w' := wr.alloc (.cells #[.int .i64 x] 3)) fun b _ h2 => Below.heap_alloc _ _ _ h2
            have hRO := RdI.one wr x 3
            have y5a : (wr.alloc (.cells #[.int .i64 x] 3)).cell? ⟨w.heap.size + 1, 5, none⟩ = some vp := (hbx.alloc _).cell rfl
            go_wp2_with (at_builtin; refine wpList_apI (v := vp) (w := wr.alloc (.cells #[.int .i64 x] 3)) (lo := w2.heap.size) (n := L) (xs := pvI (pvLow j (s.pv.take t))) (ys := [(x : Int)]) (m := 1) rfl (.tmp 54) (.tmp 56) rfl rfl hT2 rfl hRO (Hd.self (by unfold maxLen; omega)) hcn (by simp; omega) ?_; intro v2 w7 ho7 hg7 hv7; obtain ⟨A7, c7, rfl, hd7⟩ := own_hd ho7; have hlo7 := fun b e => (hop.lt b e).1; have hg7s := hg7.size; rw [World.size_alloc] at hg7s; have hbx7 : Box w7 (w.heap.size + 1) _ := (hbx.alloc (.cells #[.int .i64 x] 3)).keep (hg7.block _ (by rw [World.size_alloc]; omega) (fun e => by have := hlo7 _ e.symm; omega)); have z5 : w7.cell? ⟨w.heap.size + 1, 5, none⟩ = some vp := hbx7.cell rfl; have zf := hbx7.fz)
            have HO := Lib.hid (show (w7.setCell ⟨w.heap.size + 1, 5, none⟩ (.slice A7 (L + 1) c7)).ownsRow w2.heap.size 3 1 (.slice A7 (L + 1) c7) (L + 1) ((pvI (pvLow j (s.pv.take (t + 1)))).map (Value.int .i64)) by
              rw [HPT.out, if_pos hxj, pvI_snoc]
              exact own_keep2 ho7 fun b h1 _ => Below.heap_setCell _ _ _ _ (by show b ≠ w.heap.size + 1; omega))
            have HG := Lib.hid (show Chg (w.heap.size + 1) (w.heap.size + 2) w2 w7 from ⟨hg7.os.trans (hch.alloc (.cells #[.int .i64 x] 3)).os, hg7.tape.trans (hch.alloc (.cells #[.int .i64 x] 3)).tape, hg7.output.trans (hch.alloc (.cells #[.int .i64 x] 3)).output, by omega, fun k hk hh => (hg7.block k (by rw [World.size_alloc]; omega) (fun e => by have := hlo7 _ e.symm; omega)).trans ((hch.alloc (.cells #[.int .i64 x] 3)).block k hk hh)⟩)
            have HLL2 := Lib.hid (show (pvLow j (s.pv.take (t + 1))).length = L + 1 by rw [HPT.out, if_pos hxj, List.length_append, HLL.out]; rfl)
            clear hT2 hRO hop hch ho7 hg7 hv7 hbx
            go_wp2
            go_roundw
            case rel => exact ⟨t + 1, L + 1, _, by omega, by go_num, HLL2, by omega, hbx7.set 5 _, HO.out, HG.out.setCell (Nat.le_refl _) (by show w.heap.size + 1 < w.heap.size + 2; omega) _⟩
            case measure => simp [intOf]; omega
          · have HO := Lib.hid (show wr.ownsRow w2.heap.size 3 1 vp L ((pvI (pvLow j (s.pv.take (t + 1)))).map (Value.int .i64)) by rw [HPT.out, if_neg hxj]; exact hop)
            have HLL2 := Lib.hid (show (pvLow j (s.pv.take (t + 1))).length = L by rw [HPT.out, if_neg hxj]; exact HLL.out)
            clear hop
            go_wp2
            go_roundw
            case rel => exact ⟨t + 1, L, vp, by omega, by go_num, HLL2, by omega, hbx, HO.out, hch⟩
            case measure => simp [intOf]; omega
        · obtain rfl : t = j := by omega
          have htk : s.pv.take t = s.pv := List.take_of_length_le (by rw [HLN.out]; exact Nat.le_refl _)
          rw [htk] at hop HLL
          obtain ⟨Ap, kp, rfl, hdp⟩ := own_hd hop
          have hbe : ((L : Int) == (t : Int)) = bb := by
            rw [HBC.out, show (s.pv.filter fun x => decide (x < t)).length = L from HLL.out]
            rw [Bool.eq_iff_iff]; simp; omega
          have hopr := ofOwn' hop (by unfold maxLen; omega)
          have hbz := hbz2.chg hch (.inl (by omega))
          have hT3 := hT2.chgHi hch (Nat.le_refl _) (by omega)
          have hB3 := hB2.trans ((hch.below (by omega)).mono (by omega))
          have y0 : wr.cell? ⟨w.heap.size + 1, 0, none⟩ = some (.bool false) := hbx.cell rfl
          have y1 : wr.cell? ⟨w.heap.size + 1, 1, none⟩ = some (.int .i64 p) := hbx.cell rfl
          have y2 : wr.cell? ⟨w.heap.size + 1, 2, none⟩ = some (.int .i64 t) := hbx.cell rfl
          have y3 : wr.cell? ⟨w.heap.size + 1, 3, none⟩ = some (.int .i64 t) := hbx.cell rfl
          have y4 : wr.cell? ⟨w.heap.size + 1, 4, none⟩ = some (.slice At t kt) := hbx.cell rfl
          have y5 : wr.cell? ⟨w.heap.size + 1, 5, none⟩ = some (.slice Ap L kp) := hbx.cell rfl
          have yf := hbx.fz
          have z0 : wr.cell? ⟨w.heap.size, 0, none⟩ = some (.bool false) := hbz.cell rfl
          have z1 : wr.cell? ⟨w.heap.size, 1, none⟩ = some (.int .i64 0) := hbz.cell rfl
          have z2 : wr.cell? ⟨w.heap.size, 2, none⟩ = some (.int .i64 0) := hbz.cell rfl
          have z3 : wr.cell? ⟨w.heap.size, 3, none⟩ = some (.int .i64 0) := hbz.cell rfl
          have z4 : wr.cell? ⟨w.heap.size, 4, none⟩ = some (.slice none 0 0) := hbz.cell rfl
          have z5 : wr.cell? ⟨w.heap.size, 5, none⟩ = some (.slice none 0 0) := hbz.cell rfl
          have zf := hbz.fz
          have HLP := Lib.hid (show (pvLow t s.pv).length = L from HLL.out)
          clear htk hch hop hbx hbz HLL
          go_wp2
          refine bodyPost_ret (v := .agg #[.bool bb, .int .i64 p, .int .i64 t, .int .i64 t, .slice At t kt, .slice Ap L kp]) (by simp [results, Try.results65, go_sem, z0, z1, z2, z3, z4, z5, y0, y1, y2, y3, y4, y5]) rfl ⟨At, Ap, kt, kp, hs2, xss2, by rw [HLP.out], hdt, by rw [HLP.out]; exact hdp, (((((((hB3.setCell (p := ⟨w.heap.size + 1, 0, none⟩) (by show w.heap.size ≤ w.heap.size + 1; omega) _).setCell (p := ⟨w.heap.size, 0, none⟩) (by show w.heap.size ≤ w.heap.size; omega) _).setCell (p := ⟨w.heap.size, 1, none⟩) (by show w.heap.size ≤ w.heap.size; omega) _).setCell (p := ⟨w.heap.size, 2, none⟩) (by show w.heap.size ≤ w.heap.size; omega) _).setCell (p := ⟨w.heap.size, 3, none⟩) (by show w.heap.size ≤ w.heap.size; omega) _).setCell (p := ⟨w.heap.size, 4, none⟩) (by show w.heap.size ≤ w.heap.size; omega) _).setCell (p := ⟨w.heap.size, 5, none⟩) (by show w.heap.size ≤ w.heap.size; omega) _), ?_, ?_, ?_⟩
          · refine ((hT3.keep fun b hl _ _ => ?_).down (by omega)).up (by simp only [World.size_setCell]; omega)
            refine (Below.heap_setCell _ ⟨w.heap.size, 5, none⟩ _ _ (by show b ≠ w.heap.size; omega)).trans ?_
            refine (Below.heap_setCell _ ⟨w.heap.size, 4, none⟩ _ _ (by show b ≠ w.heap.size; omega)).trans ?_
            refine (Below.heap_setCell _ ⟨w.heap.size, 3, none⟩ _ _ (by show b ≠ w.heap.size; omega)).trans ?_
            refine (Below.heap_setCell _ ⟨w.heap.size, 2, none⟩ _ _ (by show b ≠ w.heap.size; omega)).trans ?_
            refine (Below.heap_setCell _ ⟨w.heap.size, 1, none⟩ _ _ (by show b ≠ w.heap.size; omega)).trans ?_
            refine (Below.heap_setCell _ ⟨w.heap.size, 0, none⟩ _ _ (by show b ≠ w.heap.size; omega)).trans ?_
            refine (Below.heap_setCell _ ⟨w.heap.size + 1, 0, none⟩ _ _ (by show b ≠ w.heap.size + 1; omega)).trans ?_
            rfl
          · rw [← HC.out]; exact HF2.out
          · rw [HLP.out]
            exact ((((((((hopr.setLow (p := ⟨w.heap.size + 1, 0, none⟩) (by show w.heap.size + 1 < w2.heap.size; omega) _).setLow (p := ⟨w.heap.size, 0, none⟩) (by show w.heap.size < w2.heap.size; omega) _).setLow (p := ⟨w.heap.size, 1, none⟩) (by show w.heap.size < w2.heap.size; omega) _).setLow (p := ⟨w.heap.size, 2, none⟩) (by show w.heap.size < w2.heap.size; omega) _).setLow (p := ⟨w.heap.size, 3, none⟩) (by show w.heap.size < w2.heap.size; omega) _).setLow (p := ⟨w.heap.size, 4, none⟩) (by show w.heap.size < w2.heap.size; omega) _).setLow (p := ⟨w.heap.size, 5, none⟩) (by show w.heap.size < w2.heap.size; omega) _).down (by omega)).up (by simp only [World.size_setCell]; exact Nat.le_refl _)
end Go.Proofs.Ytfiganobjjjloaa
namespace Go.Proofs.Ytfiganobjjjloaa
set_option linter.unusedVariables false
set_option linter.unusedSimpArgs false
set_option maxRecDepth 20000
open Go.RowKit Go.Sort
set_option maxHeartbeats 8000000
theorem isfx_run {A : Option Addr} {n k lo : Nat} (L : Int) (hL : L = lo) (hd : Hd A n k) (h1 : lo ≤ n) :
    ∃ A', Hd A' (n - lo) (k - lo) ∧ (∀ (w : World) (B : Nat) (d : List Int), RdI w B A n d → RdI w B A' (n - lo) (sub d lo (n - lo))) ∧
      ∀ w : World, Sem.run Try.prog (Instr.sliceAt 22 (.slice A n k) (some (.int .i64 L)) none none) w = .ok (.slice A' (n - lo) (k - lo)) w := by
  subst hL
  rcases hd with ⟨rfl, rfl, rfl⟩ | ⟨b, o, rfl, h3, h4⟩
  · have e2 : lo = 0 := by omega
    subst e2
    refine ⟨none, Hd.nil, fun w B d h => ?_, fun w => ?_⟩
    · have := h.nilOf; subst this; exact h
    · rw [run_sliceAt_slice _ _ _ _ _ _ Try.underlying22, run_slice_l _ _ _ _ _ Try.underlying22 _ _ (by omega) (by omega)]
      rfl
  · unfold maxLen at h4
    by_cases e : k = lo
    · refine ⟨some ⟨b, o, none⟩, Hd.mk (by omega) (by unfold maxLen; omega), fun w B d h => ?_, fun w => ?_⟩
      · have e1 : n - lo = 0 := by omega
        rw [e1]
        have : sub d lo 0 = [] := by simp [sub]
        rw [this]; exact RdI.emp _ _ _
      · rw [run_sliceAt_slice _ _ _ _ _ _ Try.underlying22, run_slice_l _ _ _ _ _ Try.underlying22 _ _ (by omega) (by omega)]
        simp only [Int.toNat_natCast, sliced, if_pos e]
        rfl
    · refine ⟨some ⟨b, o + lo, none⟩, Hd.mk (by omega) (by unfold maxLen; omega), fun w B d h => h.part (by omega), fun w => ?_⟩
      rw [run_sliceAt_slice _ _ _ _ _ _ Try.underlying22, run_slice_l _ _ _ _ _ Try.underlying22 _ _ (by omega) (by omega)]
      simp only [Int.toNat_natCast, sliced, if_neg e]
      have : (sizeOf (Program.elem Try.prog 22)).run Try.prog w = .ok 1 w := by kernel_rfl
      rw [this]
      simp [Result.andThen, Addr.add]
theorem RdI.take {w : World} {B n m : Nat} {A : Option Addr} {xs : List Int} (h : RdI w B A n xs) (hm : m ≤ n) : RdI w B A m (xs.take m) := by
  have hl := h.1
  refine ⟨by rw [List.length_take]; omega, by have := h.2.1; omega, fun h0 => ?_⟩
  obtain ⟨b, o, e, hb, hc⟩ := h.2.2 (by omega)
  refine ⟨b, o, e, hb, fun j hj => ?_⟩
  rw [hc j (by omega)]
  unfold gI
  simp [List.getElem?_take, hj]
theorem take_map {xs : List Int} {N M : Nat} {g : Nat → Int} (hl : xs.length = M) (hN : N ≤ M) (h : ∀ j, j < M → gI xs j = g j) : xs.take N = (List.range N).map g := by
  refine ext_gI (by simp; omega) fun j hj => ?_
  rw [List.length_take] at hj
  rw [map_at (by omega), ← h j (by omega)]
  unfold gI
  simp [List.getElem?_take, show j < N by omega]
theorem sub_map {xs : List Int} {N : Nat} {g : Nat → Int} (hl : xs.length = N + N) (h : ∀ j, j < N + N → gI xs j = g j) : sub xs N N = (List.range N).map fun j => g (N + j) := by
  refine ext_gI (by rw [sub_len (by omega)]; simp) fun j hj => ?_
  rw [sub_len (by omega)] at hj
  rw [map_at hj, sub_get hj]
  exact h _ (by omega)
theorem OwI.other {w w' : World} {B B0 b0 b1 n : Nat} {A : Option Addr} {xs : List Int} (h : OwI w b0 b1 A n xs) (hc : Chg B0 B w w') (h0 : b1 ≤ B0) (h1 : b1 ≤ w.heap.size) : OwI w' b0 b1 A n xs :=
  h.keep (fun b o hb => hc.cell b o (.inl (by omega)) (by omega)) (fun b o hb => hc.frozen b o (.inl (by omega)) (by omega))
set_option maxRecDepth 100000 in
theorem coords_any {B : Nat} (p : Int) (N kt kp kv : Nat) (b : Bool) (At Ap Av : Option Addr) (f : Tb) (pv : List Nat) (v : List Int) (hs : List Hdr) (xss : List (List Int)) (w : World) (hT : RdT w B At N hs xss) (hF : FF xss N (N + N) f) (hres : ResF f p) (hPv : RdI w B Ap N (pvI pv)) (hpl : pv.length = N) (hpc : ∀ i, i < N → pg pv i = i)
    (hv : RdI w B Av N v) (hdv : Hd Av N kv) (hB : B ≤ w.heap.size) (hN : N ≤ 40) (hp1 : 2 ≤ p) (hp2 : p ≤ 10007) (hvr : ∀ j, 0 ≤ gI v j ∧ gI v j < p) :
    Calls Try.prog 67 #[.agg #[.bool b, .int .i64 p, .int .i64 N, .int .i64 N, .slice At N kt, .slice Ap N kp], .slice Av N kv] w (RetIB (crO N N p f (fun i => i) v N) (zeroB (crL N p f (fun i => i) v N)) w) := by
  have HFF := Lib.hid hF
  have HRS := Lib.hid hres
  have HPL := Lib.hid hpl
  have HPC := Lib.hid hpc
  have HVR := Lib.hid hvr
  have HLL := Lib.hid (fun m => crL_len N p f (fun i => i) v m)
  have HLV := Lib.hid hv.1
  have HLR := Lib.hid (fun m => crL_res (C := N) (p := p) (f := f) (pc := fun i => i) (v := v) (by omega) (by rw [hv.1]; exact Nat.le_refl _) hvr m)
  have HOR := Lib.hid (fun m => crO_res (C := N) (N := N) (p := p) (f := f) (pc := fun i => i) (v := v) (by omega) m)
  have hx0 := Box.new w #[.bool b, .int .i64 p, .int .i64 N, .int .i64 N, .slice At N kt, .slice Ap N kp] 77
  have hv1 := hv.alloc hB (.cells #[.bool b, .int .i64 p, .int .i64 N, .int .i64 N, .slice At N kt, .slice Ap N kp] 77)
  clear hF hres hpl hpc hvr
  go_enter Try.func67, Try.ntmps67
  go_wp2_with fail
  refine (clone_any (B := B) Av N kv v _ hv1 hdv (by rw [World.size_alloc]; omega) (by omega)).mono ?_
  rintro e w1 ⟨A1, n1, k1, rfl, hd1, hb1, ho1⟩
  rw [World.size_alloc] at ho1
  have hs1 := hb1.size
  simp only [World.size_alloc] at hs1
  obtain rfl : N = n1 := by rw [← ho1.1]; exact HLV.out.symm
  have hx1 := hx0.below hb1 (by simp)
  have hq1 : Below w.heap.size w w1 := (by repeat' (first | (with_reducible exact Below.refl _ _) | (with_reducible refine Below.setCell ?_ (by first | exact Nat.le_refl _ | omega | (simp only [World.size_alloc, World.size_setCell, World.heap_drewN]; omega) | (simp; omega)) _) | (with_reducible refine Below.alloc ?_ (by first | exact Nat.le_refl _ | omega | (simp only [World.size_alloc, World.size_setCell, World.heap_drewN]; omega) | (simp; omega)) _) | (with_reducible refine below_drewN ?_ _) | (with_reducible refine Below.drew ?_) | (with_reducible refine Below.trans ?_ (hb1.mono (by first | exact Nat.le_refl _ | omega | (simp only [World.size_alloc, World.size_setCell, World.heap_drewN]; omega) | (simp; omega))))))
  have y3 : w1.cell? ⟨w.heap.size, 3, none⟩ = some (.int .i64 N) := hx1.cell rfl
  go_wp2_with (at_make; refine wpList_mkI _ rfl _ _ 22 rfl 3 Try.underlying22 Try.infoI .i64 .i64 _ _ N rfl rfl (by omega) (by omega) (by omega) ?_; intro w2 ho2 hb2 hs2; have y5 : w2.cell? ⟨w.heap.size, 5, none⟩ = some (.slice Ap N kp) := (hx1.below hb2 (by omega)).cell rfl)
  have hx2 := hx1.below hb2 (by omega)
  have hq2 := hq1.trans (hb2.mono (by omega))
  have ho12 := ho1.below hb2 (Nat.le_refl _)
  clear y3 hx0 hx1 hv1 hb1 ho1 hq1
  rw [show List.replicate N (0 : Int) = crO N N p f (fun i => i) v 0 from rfl] at ho2
  go_loopw [19] (fun ii wr => ∃ t : Nat, t ≤ N ∧ ii = .int .i64 (t : Int) ∧ w2.heap.size ≤ wr.heap.size ∧ Chg (w.heap.size + 1) w2.heap.size w2 wr ∧ OwI wr (w.heap.size + 1) w1.heap.size A1 N (crL N p f (fun i => i) v t) ∧ OwI wr w1.heap.size w2.heap.size (some ⟨w1.heap.size, 0, none⟩) N (crO N N p f (fun i => i) v t)) (fun ii _ => N - (intOf ii).toNat)
  case atStart => exact ⟨0, by omega, rfl, Nat.le_refl _, Chg.refl _ _ _, ho12, ho2⟩
  case round =>
    clear ho2 ho12 y5
    obtain ⟨t, ht, rfl, hsr, hch, ho1, ho2⟩ := hrel
    have hx := hx2.chg hch (.inl (by omega))
    have hbw := hch.below (show w.heap.size + 1 ≤ w2.heap.size by omega)
    by_cases hlt : t < N
    · have hTr := (hT.below hq2 hB).below hbw (by omega)
      have hPr := (hPv.below hq2 hB).below hbw (by omega)
      obtain ⟨bP, oP, rfl⟩ := hPr.addr (by omega)
      have hpe := hPr.at_ hlt
      rw [pvI_get (by rw [HPL.out]; exact hlt), HPC.out t hlt] at hpe
      obtain ⟨bO, oO, rfl⟩ := ho1.addr (by omega)
      obtain ⟨hb0, hb1'⟩ := ho1.blk (by omega)
      obtain ⟨hoc, hof⟩ := ho1.at_ hlt
      obtain ⟨bT, oT, rfl, hbT, hcT⟩ := hTr.tbl (by omega)
      have hct := hcT t hlt
      unfold slv at hct
      obtain ⟨hrr, hDr⟩ := hTr.rows t hlt
      have hrl : (row xss t).length = N + N := (HFF.out t hlt).1
      have HFR := (HFF.out t hlt).2
      have hln : (hdr hs t).2.1 = N + N := by rw [← hrr.1]; exact hrl
      rw [hln] at hct hrr hDr
      generalize (hdr hs t).1 = A' at hct hrr hDr
      generalize (hdr hs t).2.2 = k' at hct hrr hDr
      have hv := HLR.out t t
      have HS1 := Lib.hid (show crL N p f (fun i => i) v (t + 1) = if gI (crL N p f (fun i => i) v t) t = 0 then crL N p f (fun i => i) v t else addAt (crL N p f (fun i => i) v t) 0 (p - gI (crL N p f (fun i => i) v t) t) ((List.range N).map (f t)) p N from rfl)
      have HS2 := Lib.hid (show crO N N p f (fun i => i) v (t + 1) = if gI (crL N p f (fun i => i) v t) t = 0 then crO N N p f (fun i => i) v t else addAt (crO N N p f (fun i => i) v t) 0 (gI (crL N p f (fun i => i) v t) t) ((List.range N).map fun j => f t (N + j)) p N from rfl)
      have y5 : wr.cell? ⟨w.heap.size, 5, none⟩ = some (.slice (some ⟨bP, oP, none⟩) N kp) := hx.cell rfl
      have y4 : wr.cell? ⟨w.heap.size, 4, none⟩ = some (.slice (some ⟨bT, oT, none⟩) N kt) := hx.cell rfl
      have y2 : wr.cell? ⟨w.heap.size, 2, none⟩ = some (.int .i64 N) := hx.cell rfl
      have y1 : wr.cell? ⟨w.heap.size, 1, none⟩ = some (.int .i64 p) := hx.cell rfl
      obtain ⟨kk, hkk⟩ : ∃ kk, kk = gI (crL N p f (fun i => i) v t) t := ⟨_, rfl⟩
      rw [← hkk] at hoc hv HS1 HS2
      clear hkk hcT hTr hPr
      by_cases hz : kk = 0
      · have HZ0 := Lib.hid hz
        have hz' : (kk == 0) = true := by simpa using hz
        clear hz
        go_wp2
        go_roundw
        case rel => exact ⟨t + 1, by omega, by go_num, hsr, hch, by rw [HS1.out, if_pos HZ0.out]; exact ho1, by rw [HS2.out, if_pos HZ0.out]; exact ho2⟩
        case measure => simp [intOf]; omega
      · have HZ0 := Lib.hid hz
        have hz' : (kk == 0) = false := by simpa using hz
        clear hz
        have hkw : IntKind.i64.wrap (p - kk) = p - kk := IntWalk.i64_in _ (by omega)
        have e1 := take_map (N := N) hrl (by omega) HFR
        have e2 := sub_map (N := N) hrl HFR
        have hr1 := hrr.take (show N ≤ N + N by omega)
        rw [e1] at hr1
        have hrunA := ipart_run (A := A') (n := N + N) (k := k') (hi := N) (N : Int) rfl hDr (by omega)
        obtain ⟨A2, hd2, hp2', hrunB⟩ := isfx_run (A := A') (n := N + N) (k := k') (lo := N) (N : Int) rfl hDr (by omega)
        rw [show N + N - N = N by omega] at hd2 hp2' hrunB
        have hr2 := hp2' _ _ _ hrr
        rw [e2] at hr2
        have hdis : 0 < N → ∀ b2 o2, A' = some ⟨b2, o2, none⟩ → b2 ≠ bO := by
          intro h0 b2 o2 e
          obtain ⟨b', o', e', hb', _⟩ := hr1.2.2 h0
          rw [e] at e'; injection e' with e'; injection e' with e1 e2; omega
        have hdis2 : 0 < N → ∀ b2 o2, A2 = some ⟨b2, o2, none⟩ → b2 ≠ w1.heap.size := by
          intro h0 b2 o2 e
          obtain ⟨b', o', e', hb', _⟩ := hr2.2.2 h0
          rw [e] at e'; injection e' with e'; injection e' with e1 e2; omega
        clear hp2' e1 e2 hrl hrr HFR
        go_wp2_with fail
        (refine wp_region_quiet_last (C := fun w' => ∃ nn, w' = wr.drewN nn) 15 (by kernel_rfl) (by kernel_rfl) (by kernel_rfl) (by kernel_rfl) (by kernel_rfl) (by kernel_rfl) (by kernel_rfl) (by kernel_rfl) ⟨1, rfl⟩ ?_; simp only [List.take_succ_cons, List.take_zero, List.drop_succ_cons, List.drop_zero]; (repeat (go_big_quiet_step (fail))); refine wpQuiet_nil ?_; rintro W ⟨nq, rfl⟩)
        go_wp2_with fail
        refine (addTo_any (B0 := w.heap.size + 1) (B := w1.heap.size) bO oO N 0 N k1 (crL N p f (fun i => i) v t) (p - kk) A' N _ ((List.range N).map (f t)) p _ (by exact ho1) (by omega) (by exact hr1) (by show B ≤ wr.heap.size; omega) hdis (Nat.le_refl _) (by omega) hp2 (by omega) (by omega) (fun j hj => by rw [map_at hj]; exact HRS.out t j) (fun j _ => HLR.out t _)).mono ?_
        rintro e w6 ⟨rfl, hs6, hc6, ho6⟩
        have hs6' : wr.heap.size ≤ w6.heap.size := by rw [hs6]; exact Nat.le_refl _
        have hc6' : Chg bO (bO + 1) wr w6 := ((Chg.refl bO (bO + 1) wr).drewN nq).trans hc6
        have ho2' := ho2.chgHi hc6' (by omega) (by omega)
        have hx6 := hx.chg hc6' (.inl (by omega))
        have hr2' := hr2.keep fun b o hlt => hc6'.cell b o (.inl (by omega)) (by omega)
        have y4 : w6.cell? ⟨w.heap.size, 4, none⟩ = some (.slice (some ⟨bT, oT, none⟩) N kt) := hx6.cell rfl
        have y2 : w6.cell? ⟨w.heap.size, 2, none⟩ = some (.int .i64 N) := hx6.cell rfl
        have y1 : w6.cell? ⟨w.heap.size, 1, none⟩ = some (.int .i64 p) := hx6.cell rfl
        have hct6 := (hc6'.cell bT (oT + t) (.inl (by omega)) (by omega)).trans hct
        clear hct hr1 hr2 ho1 ho2 hx hc6 hs6 hoc hof hpe
        go_wp2_with fail
        (refine wp_region_quiet_last (C := fun w' => ∃ nn, w' = w6.drewN nn) 12 (by kernel_rfl) (by kernel_rfl) (by kernel_rfl) (by kernel_rfl) (by kernel_rfl) (by kernel_rfl) (by kernel_rfl) (by kernel_rfl) ⟨1, rfl⟩ ?_; simp only [List.take_succ_cons, List.take_zero, List.drop_succ_cons, List.drop_zero]; (repeat (go_big_quiet_step (fail))); refine wpQuiet_nil ?_; rintro W ⟨nq, rfl⟩)
        go_wp2_with fail
        refine (addTo_z (B0 := w1.heap.size) (B := w2.heap.size) w1.heap.size N 0 N N (crO N N p f (fun i => i) v t) kk A2 N _ ((List.range N).map fun j => f t (N + j)) p _ (by exact ho2') (by omega) (by exact hr2') (by show B ≤ w6.heap.size; omega) hdis2 (Nat.le_refl _) (by omega) hp2 (by omega) (by omega) (fun j hj => by rw [map_at hj]; exact HRS.out t _) (fun j _ => HOR.out t _)).mono ?_
        rintro e w7 ⟨rfl, hs7, hc7, ho7⟩
        have hc7' : Chg w1.heap.size (w1.heap.size + 1) w6 w7 := ((Chg.refl w1.heap.size (w1.heap.size + 1) w6).drewN nq).trans hc7
        have hs7' : w6.heap.size ≤ w7.heap.size := by rw [hs7]; exact Nat.le_refl _
        have HO1 := Lib.hid (ho6.other hc7' (Nat.le_refl _) (by omega))
        have HO2 := Lib.hid ho7
        have HG := Lib.hid ((hch.trans (hc6'.mono (by omega) (by omega))).trans (hc7'.mono (by omega) (by omega)))
        clear ho6 ho7 ho2' hc6' hc7 hc7' hch y1 y2 y4 hct6 hr2' hx6
        go_wp2
        go_roundw
        case rel => exact ⟨t + 1, by omega, by go_num, by omega, HG.out, by rw [HS1.out, if_neg HZ0.out]; exact HO1.out, by rw [HS2.out, if_neg HZ0.out]; exact HO2.out⟩
        case measure => simp [intOf]; omega
    · obtain rfl : t = N := by omega
      have hqf := hq2.trans (hbw.mono (by omega))
      go_wp2_with (go_at_call 88; refine (isZero_any _ _ _ _ _ ho1.rd).mono ?_; rintro e w6 ⟨rfl, hsd⟩; obtain ⟨dd, rfl⟩ := hsd)
      go_ret2
      exact ⟨_, _, _, rfl, Hd.self (by unfold maxLen; omega), below_drewN hqf _, ((ho2.drewN _).down (by omega)).up (by show _ ≤ wr.heap.size; omega)⟩
end Go.Proofs.Ytfiganobjjjloaa
