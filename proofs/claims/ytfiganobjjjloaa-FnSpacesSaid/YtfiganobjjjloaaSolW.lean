/- solve of the program. No condition but what each theorem names. -/
import Derived.Test.YtfiganobjjjloaaTbl
import Derived.Test.YtfiganobjjjloaaKernW
import Derived.Deep.RegionHeld3
import Derived.Deep.DeepCutAuto
import Derived.Outline
namespace Go.Proofs.Ytfiganobjjjloaa
set_option linter.unusedVariables false
set_option linter.unusedSimpArgs false
set_option maxRecDepth 20000
open Go.RowKit
set_option maxHeartbeats 4000000
/-- a call that hands back a new slice of integers, known whole -/
def RetO (xs : List Int) (w : World) (e : Ending) (w' : World) : Prop :=
  ∃ v, e = .returned v ∧ w'.ownsRow w.heap.size 3 1 v xs.length (xs.map (Value.int .i64)) ∧ Below w.heap.size w w'
theorem clone_own {B : Nat} (A : Option Addr) (n c : Nat) (xs : List Int) (w : World) (h : RdI w B A n xs) (hd : Hd A n c) (hB : B ≤ w.heap.size) (hn : n ≤ 1073741824) :
    Calls Try.prog 129 #[.slice A n c] w (RetO xs w) := by
  have hnil := fun (w : World) (a : Option Addr) (n c n' c' : Nat) => Lib.run_eql_slice_nil (P := Try.prog) w 22 3 a n c n' c' Try.underlying22
  have HL := Lib.hid h.1
  rcases hd with ⟨rfl, rfl, rfl⟩ | ⟨b, o, rfl, h1, h2⟩
  · have hx := h.nilOf
    subst hx
    go_enter Try.func129, Try.ntmps129
    go_wp2
    go_ret
    exact ⟨_, rfl, World.ownsRow_nil _ _ _ _, Below.refl _ _⟩
  · go_enter Try.func129, Try.ntmps129
    go_wp2_with (at_builtin; refine wpList_apI (v := .slice (some ⟨w.heap.size, 0, none⟩) 0 0) (w := w.alloc (.cells #[] 3)) (lo := w.heap.size) (n := 0) (xs := []) rfl (.tmp 5) (.tmp 6) rfl rfl (World.ownsRow_lit w #[] 0 (Nat.le_refl _) (by unfold maxLen; omega) rfl) rfl (h.alloc hB _) (Hd.mk h1 h2) (by omega) (by simp) ?_; intro v1 w1 ho hg hv)
    have hb : Below w.heap.size w w1 := ((Below.refl _ _).alloc (Nat.le_refl _) _).grown hg (by simp) (fun q e => by injection e with e; have e' : w.heap.size = q := e; omega)
    go_ret
    rw [Nat.zero_add] at ho
    exact ⟨_, rfl, by rw [HL.out]; simpa using ho, hb⟩
/-- the rows, each with its number of v behind it -/
def augL (xss : List (List Int)) (v : List Int) (m : Nat) : List (List Int) := (List.range m).map fun i => row xss i ++ [gI v i]
theorem augL_succ (xss : List (List Int)) (v : List Int) (m : Nat) : augL xss v (m + 1) = augL xss v m ++ [row xss m ++ [gI v m]] := by simp [augL, List.range_succ]
def augF (f : Tb) (v : List Int) (C : Nat) : Tb := fun i j => if j < C then f i j else gI v i
theorem augL_FF {xss : List (List Int)} {R C : Nat} {f : Tb} (h : FF xss R C f) (v : List Int) : FF (augL xss v R) R (C + 1) (augF f v C) := by
  intro i hi
  have hr : row (augL xss v R) i = row xss i ++ [gI v i] := by rw [row_lt (by simp [augL]; exact hi)]; simp [augL]
  obtain ⟨h1, h2⟩ := h i hi
  rw [hr]
  refine ⟨by simp [h1], fun j hj => ?_⟩
  unfold augF
  by_cases e : j < C
  · rw [if_pos e, ← h2 j e]
    unfold gI
    rw [List.getD_eq_getElem?_getD, List.getElem?_append_left (by rw [h1]; exact e), ← List.getD_eq_getElem?_getD]
  · rw [if_neg e]
    have : j = C := by omega
    subst this
    rw [gI_lt (by simp [h1])]
    rw [List.getElem_append_right (by rw [h1]; exact Nat.le_refl _)]
    simp
theorem augF_res {f : Tb} {v : List Int} {C : Nat} {p : Int} (hp : 1 ≤ p) (hf : ResF f p) (hv : resB v p = true) : ResF (augF f v C) p := by
  intro i j
  unfold augF
  split
  · exact hf i j
  · exact gI_res hp hv i
/-- the unknowns that the first t pivots give -/
def solP (s : RS) (C t : Nat) (j : Nat) : Int := if s.pv.idxOf j < t then s.f (s.pv.idxOf j) C else 0
theorem solP_succ {s : RS} {C t : Nat} (hs : s.pv.Pairwise (· < ·)) (ht : t < s.pv.length) (j : Nat) : (if j = pg s.pv t then s.f t C else solP s C t j) = solP s C (t + 1) j := by
  by_cases e : j = pg s.pv t
  · subst e
    rw [if_pos rfl]; unfold solP
    rw [idx_pg hs ht, if_pos (by omega)]
  · rw [if_neg e]; unfold solP
    have : s.pv.idxOf j ≠ t := fun e3 => e (by
      have h1 : s.pv.idxOf j < s.pv.length := by omega
      have h2 : s.pv[s.pv.idxOf j] = j := List.getElem_idxOf h1
      rw [pg_lt ht]; rw [← h2]; congr 1)
    by_cases e4 : s.pv.idxOf j < t
    · rw [if_pos e4, if_pos (by omega)]
    · rw [if_neg e4, if_neg (by omega)]
/-- what is found, and whether -/
def solB (s : RS) (C : Nat) : Bool := !s.pv.contains C
def solX (s : RS) (C : Nat) : List Int := if s.pv.contains C then [] else (List.range C).map (solP s C s.pv.length)
theorem rep_map {C : Nat} (s : RS) : List.replicate C 0 = (List.range C).map (solP s C 0) := by
  refine ext_gI (by simp) fun j hj => ?_
  rw [List.length_replicate] at hj
  rw [gI_lt (by simpa using hj), gI_lt (by simpa using hj)]
  simp [solP]
set_option maxRecDepth 100000 in
theorem solve_any {B Bv : Nat} (A : Option Addr) (R k C : Nat) (p : Int) (f : Tb) (hs : List Hdr) (xss : List (List Int)) (Av : Option Addr) (kv : Nat) (v : List Int) (w : World) (h : RdT w B A R hs xss) (hF : FF xss R C f) (hB : B ≤ w.heap.size) (hv : RdI w Bv Av R v) (hBv : Bv ≤ w.heap.size) (hR : R ≤ 100000) (hC : C ≤ 100000) (hp : isP p = true) (hf : ResF f p) (hvr : resB v p = true) :
    Calls Try.prog 83 #[.slice A R k, .int .i64 C, .slice Av R kv, .int .i64 p] w (RetIB (solX (rr R p (augF f v C) (C + 1)) C) (solB (rr R p (augF f v C) (C + 1)) C) w) := by
  obtain ⟨hp1, hp2⟩ := isP_bd hp
  have HP := Lib.hid hp
  have HL := Lib.hid h.len
  have HAF := Lib.hid (augL_FF hF v)
  have HAR := Lib.hid (augF_res (C := C) (show 1 ≤ p by omega) hf hvr)
  have HFL := Lib.hid (show ∀ j, j < R → (row xss j).length = C from fun j hj => (hF j hj).1)
  have HPS := Lib.hid (rr_sorted R p (augF f v C) (C + 1))
  have HPV := Lib.hid (rr_pv R p (augF f v C) (C + 1))
  obtain ⟨hrk, hpl⟩ := rr_rk R p (augF f v C) (C + 1)
  have HPL := Lib.hid hpl
  clear hF hp hf hvr hpl
  go_enter Try.func83, Try.ntmps83
  go_wp2_with fail
  go_loopw [10, 19] (fun v0 i wr => ∃ (j hi : Nat) (hs' : List Hdr), j ≤ R ∧ i = .int .i64 j ∧ OwT wr w.heap.size hi v0 j hs' (augL xss v j) ∧ Below w.heap.size w wr ∧ hi ≤ wr.heap.size) (fun _ i _ => R - (intOf i).toNat)
  case atStart => exact ⟨0, _, [], by omega, rfl, OwT.made w, (Below.refl _ _).alloc (Nat.le_refl _) _, by simp⟩
  case round =>
    obtain ⟨j, hi, hs', hj, rfl, hT, hB1, hhi⟩ := hrel
    have hsz := hB1.size
    by_cases hlt : j < R
    · obtain ⟨b, o, rfl, hb, hc⟩ := h.tbl (by omega)
      have hcj := (hB1.cell (p := ⟨b, o + j, none⟩) (by show b < _; omega)).trans (hc j hlt)
      unfold slv at hcj
      obtain ⟨hr, hd⟩ := h.rows j hlt
      have hr' := hr.below hB1 hB
      have hv' := hv.below hB1 hBv
      obtain ⟨bv, ov, rfl⟩ := hv'.addr (by omega)
      have hlen : (hdr hs j).2.1 = C := by rw [← hr.1]; exact HFL.out j hlt
      have hlen' : (hdr hs j).2.1 ≤ 1073741824 := by omega
      have HRL := Lib.hid (HFL.out j hlt)
      have HTS := Lib.hid (augL_succ xss v j)
      have hcn : j ≤ 1073741824 := by omega
      clear hc hr hlen
      go_wp2_with fail
      have hsa := (Below.refl wr.heap.size wr).alloc (Nat.le_refl _) (.cells #[.int .i64 (gI v j)] 3)
      go_region_held3 (fun w' => w'.cell? ⟨bv, ov + j, none⟩ = some (.int .i64 (gI v j))) (first | exact hv'.at_ hlt | exact (hv'.alloc (by omega) _).at_ hlt | exact hv1.at_ hlt | exact (hv1.alloc (by omega) _).at_ hlt | exact hv2.at_ hlt | exact (hv2.alloc (by omega) _).at_ hlt | assumption)
        (first
          | (go_at_call 129; have hq0 : wr.drew.cell? ⟨bv, ov + j, none⟩ = some (.int .i64 (gI v j)) := (by with_reducible assumption); refine (clone_own _ _ _ (row xss j) wr.drew (by exact hr') hd (by rw [size_drew]; omega) hlen').mono ?_; rintro e w1 ⟨v1, rfl, ho1, hb1⟩; rw [size_drew] at ho1; have hb1 : Below wr.heap.size wr w1 := ⟨hb1.os, hb1.tape, hb1.output, hb1.size, hb1.block⟩; have hs1 := hb1.size; have hv1 := hv'.below hb1 (by omega); have hlo1 := fun b e => (ho1.lt b e).1)
          | (go_at_call 129; have hq0 : (wr.alloc (.cells #[.int .i64 (gI v j)] 3)).drew.cell? ⟨bv, ov + j, none⟩ = some (.int .i64 (gI v j)) := (by with_reducible assumption); refine (clone_own _ _ _ (row xss j) (wr.alloc (.cells #[.int .i64 (gI v j)] 3)).drew (by exact hr'.alloc (by omega) (.cells #[.int .i64 (gI v j)] 3)) hd (by rw [size_drew, World.size_alloc]; omega) hlen').mono ?_; rintro e w1 ⟨v1, rfl, ho1, hb1⟩; rw [size_drew, World.size_alloc] at ho1; have hb1 : Below (wr.heap.size + 1) (wr.alloc (.cells #[.int .i64 (gI v j)] 3)) w1 := ⟨hb1.os, hb1.tape, hb1.output, hb1.size, fun k hk => hb1.block k (by rw [size_drew, World.size_alloc]; exact hk)⟩; have hso := (RdI.one wr (gI v j) 3).below hb1 (Nat.le_refl _); have hs1p : wr.heap.size + 1 ≤ w1.heap.size := (by have := hb1.size; rw [World.size_alloc] at this; exact this); have hb1 : Below wr.heap.size wr w1 := hsa.trans (hb1.mono (by omega)); have hs1 := hb1.size; have hv1 := hv'.below hb1 (by omega); have hlo1 : ∀ b, v1.ownBlock = some b → wr.heap.size ≤ b := fun b e => (by have := (ho1.lt b e).1; omega))
          | (refine step_apI (v := v1) (w := w1.alloc (.cells #[.int .i64 (gI v j)] 3)) (lo := wr.heap.size) (n := (row xss j).length) (xs := row xss j) (ys := [gI v j]) (m := 1) rfl (.tmp 26) (.tmp 31) rfl rfl (ho1.alloc _) rfl (RdI.one w1 (gI v j) 3) (Hd.self (by unfold maxLen; omega)) (by rw [HRL.out]; omega) (by rw [World.size_alloc]; omega) ?_; intro v2 w2 ho2 hg2 hv2q; obtain ⟨A2, c2, rfl, hd2⟩ := own_hd ho2; have hs2 := hg2.size; rw [World.size_alloc] at hs2; have hb2 : Below wr.heap.size wr w2 := (hb1.alloc hs1 _).grown hg2 (by rw [World.size_alloc]; omega) (fun q e => hlo1 q e); have hor := ofOwn' ho2 (by rw [HRL.out]; unfold maxLen; omega); have hv2 := hv'.below hb2 (by omega); have hT2 := hT.below hb2 hhi)
          | (refine step_apI (v := v1) (w := w1) (lo := wr.heap.size + 1) (n := (row xss j).length) (xs := row xss j) (ys := [gI v j]) (m := 1) rfl (.tmp 26) (.tmp 31) rfl rfl ho1 rfl hso (Hd.self (by unfold maxLen; omega)) (by rw [HRL.out]; omega) (by omega) ?_; intro v2 w2 ho2 hg2 hv2q; obtain ⟨A2, c2, rfl, hd2⟩ := own_hd ho2; have hs2 := hg2.size; have hb2 : Below wr.heap.size wr w2 := hb1.grown hg2 hs1 (fun q e => hlo1 q e); have hor := (ofOwn' ho2 (by rw [HRL.out]; unfold maxLen; omega)).down (show wr.heap.size ≤ wr.heap.size + 1 by omega); have hv2 := hv'.below hb2 (by omega); have hT2 := hT.below hb2 hhi)
          | (refine step_apT (v := u10) (w := w2.alloc (.cells #[.slice A2 ((row xss j).length + 1) c2] 22)) (lo := w.heap.size) (b := w2.heap.size) (u := .slice A2 ((row xss j).length + 1) c2) rfl (.tmp 24) (.tmp 33) rfl rfl (hT2.alloc (by omega) _).tbl rfl (Box.new w2 _ _).one rfl hcn (by rw [World.size_alloc]; omega) ?_; intro v3 w3 ho3 hg3 hv3q; have hpp := hT.pushed hhi hb2 hor (Nat.le_refl _) hd2 (by omega) ho3 hg3 hv3q; have hT3 := hpp.1; have hB3 := hpp.2; have hcc : w3.cell? ⟨bv, ov + j, none⟩ = some (.int .i64 (gI v j)) := (hv.below (hB1.trans hB3) hBv).at_ hlt))
      · have hB4 := hB1.trans hB3
        clear hT hT2 hv1 hv2 hcc hor ho1 ho2 ho3 hg2 hg3 hv2q hv3q hpp
        go_wp2
        go_roundw
        case rel => exact ⟨j + 1, _, _, by omega, by go_num, by rw [HTS.out]; exact hT3, hB4, Nat.le_refl _⟩
        case measure => simp [intOf]; omega
      · have hB4 := hB1.trans hB3
        clear hT hT2 hv1 hv2 hcc hor ho1 ho2 ho3 hg2 hg3 hv2q hv3q hpp
        go_wp2
        go_roundw
        case rel => exact ⟨j + 1, _, _, by omega, by go_num, by rw [HTS.out]; exact hT3, hB4, Nat.le_refl _⟩
        case measure => simp [intOf]; omega
    · obtain rfl : R = j := by omega
      obtain ⟨A', c', rfl, hd'⟩ := hT.hd
      have hC1 : IntKind.i64.wrap ((C : Int) + 1) = (C : Int) + 1 := IntWalk.i64_in _ (by omega)
      have hsl : ((C + 1 : Nat) : Int) = (C : Int) + 1 := rfl
      have HRD := Lib.hid (fun (w1 : World) (hT1 : OwT w1 w.heap.size hi (.slice A' R c') R hs' (augL xss v R)) (h1 : hi ≤ w1.heap.size) => (by have := reduce_any (lo := w.heap.size) (hi := hi) _ R (C + 1) p (augF f v C) hs' _ w1 hT1 HAF.out h1 (by omega) (by omega) HP.out HAR.out; rw [hsl] at this; exact this : Calls Try.prog 84 #[.slice A' R c', .int .i64 ((C : Int) + 1), .int .i64 p] w1 (RetRed w.heap.size hi (.slice A' R c') R (C + 1) p (augF f v C) w1)))
      clear hsl
      go_wp2_with (first | (at_make; refine wpList_mkI _ rfl _ _ 22 rfl 3 Try.underlying22 Try.infoI .i64 .i64 _ _ C rfl rfl (by omega) (by omega) (by omega) ?_; intro w1 ho1 hb1 hs1; have hT1 := hT.below hb1 hhi) | (go_at_call 84; refine (HRD.out _ hT1 (by omega)).mono ?_; rintro e w2 ⟨A2, k2, rfl, hd2, hch, ⟨hs2, xss2, hT2, hF2⟩, ho2⟩))
      generalize rr R p (augF f v C) (C + 1) = s at *
      have hs2' := hch.size
      have hx2 := ho1.chgHi hch hhi (Nat.le_refl _)
      rw [rep_map s] at hx2
      have hB2 : Below w.heap.size w w2 := (hB1.trans (hb1.mono hsz)).trans (hch.below (by omega))
      have HF2 := Lib.hid hF2
      clear hT hT1 ho1 hb1 hch hF2 HRD
      obtain ⟨wo, rfl⟩ : ∃ wo : World, wo = wr := ⟨_, rfl⟩
      go_loopw [44] (fun i wr2 => ∃ t : Nat, t ≤ s.rk ∧ i = .int .i64 t ∧ Chg wo.heap.size w1.heap.size w2 wr2 ∧ OwI wr2 wo.heap.size w1.heap.size (some ⟨wo.heap.size, 0, none⟩) C ((List.range C).map (solP s C t)) ∧ Hid (∀ q, q < t → pg s.pv q ≠ C)) (fun i _ => s.rk - (intOf i).toNat)
      case atStart => exact ⟨0, by omega, rfl, Chg.refl _ _ _, hx2, fun q hq => by omega⟩
      case round =>
        clear hx2
        obtain ⟨t, ht, rfl, hc3, hx3, hno⟩ := hrel
        have hs3 := hc3.size
        have hbb : Below w.heap.size w wr := hB2.trans ((hc3.below (by omega)).mono hsz)
        by_cases hltt : t < s.rk
        · have hpr : RdI wr wr.heap.size A2 s.rk (pvI s.pv) := (ho2.chgHi hc3 (Nat.le_refl _) (Nat.le_refl _)).rd.up hs3
          obtain ⟨b6, o6, rfl⟩ := hpr.addr (by omega)
          have hpc := hpr.at_ hltt
          have hpl' : t < s.pv.length := by rw [HPL.out]; exact hltt
          rw [pvI_get hpl'] at hpc
          have hpb : pg s.pv t < C + 1 := HPV.out _ (pg_mem hpl')
          by_cases hpe : pg s.pv t = C
          · have hpe' : ((pg s.pv t : Int) == (C : Int)) = true := by simp; omega
            have hmem : s.pv.contains C = true := by rw [List.contains_iff_mem, ← hpe]; exact pg_mem hpl'
            have HS1 := Lib.hid (show solX s C = [] by unfold solX; rw [if_pos hmem])
            have HS2 := Lib.hid (show solB s C = false by unfold solB; rw [hmem]; rfl)
            clear hpe hmem hpl' hpr
            go_wp2
            go_ret2
            exact ⟨none, 0, 0, by rw [HS2.out]; rfl, Hd.nil, hbb, by rw [HS1.out]; exact OwI.emp _ _ _ _⟩
          · have hpe' : ((pg s.pv t : Int) == (C : Int)) = false := by simp; omega
            have hpC : pg s.pv t < C := by omega
            have hR0 : 0 < R := by omega
            obtain ⟨g, cg, eg, hg0, hg1, -, -, -⟩ := hT2.addr hR0
            injection eg with eg1 eg2 eg3
            subst eg1 eg3
            have hT3 : OwT wr w.heap.size hi (.slice (some ⟨g, 0, none⟩) R c') R hs2 xss2 := hT2.keep fun b _ hb hs => hc3.block b hs (.inl (by omega))
            obtain ⟨bq, oq, kq, hhq, hcq, -, -, -, -, hrq⟩ := hT3.atRow HF2.out (show t < R by omega) (by omega)
            have hvq := (hrq.at_ (show C < C + 1 by omega)).1
            rw [(HF2.out t (by omega)).2 C (by omega)] at hvq
            obtain ⟨hc1, hf1⟩ := hx3.at_ hpC
            rw [Nat.zero_add] at hc1 hf1
            have HX := Lib.hid (map_set (C := C) (solP_succ (C := C) HPS.out hpl'))
            have HO := Lib.hid (by have := hx3.store (v := s.f t C) hpC; rw [HX.out, Nat.zero_add] at this; exact this)
            have HNO := Lib.hid (show ∀ q, q < t + 1 → pg s.pv q ≠ C from fun q hq => by
              by_cases e : q = t
              · subst e; exact hpe
              · exact hno.out q (by omega))
            have HXX := Lib.hid hx3
            generalize pg s.pv t = q at hpc hpb hpe hpe' hpC hc1 hf1 HX HO
            clear hrq hpr hhq hT3 eg2 hx3 hpe
            go_wp2
            go_roundw
            case rel => exact ⟨t + 1, by omega, by go_num, hc3.setCell (Nat.le_refl _) (by show wo.heap.size < w1.heap.size; omega) _, HO.out, HNO.out⟩
            case measure => simp [intOf]; omega
        · obtain rfl : s.rk = t := by omega
          have hmem : s.pv.contains C = false := by
            rw [Bool.eq_false_iff]
            intro h
            rw [List.contains_iff_mem] at h
            obtain ⟨q, hq, e⟩ := mem_pg h
            exact hno.out q (by rw [← HPL.out]; exact hq) e
          have HS1 := Lib.hid (show solX s C = (List.range C).map (solP s C s.rk) by unfold solX; rw [if_neg (by rw [hmem]; exact Bool.false_ne_true), HPL.out])
          have HS2 := Lib.hid (show solB s C = true by unfold solB; rw [hmem]; rfl)
          clear hmem
          go_wp2
          go_ret2
          exact ⟨_, _, _, by rw [HS2.out]; rfl, Hd.self (by unfold maxLen; omega), hbb, by rw [HS1.out]; exact (hx3.down hsz).up (by omega)⟩
end Go.Proofs.Ytfiganobjjjloaa
