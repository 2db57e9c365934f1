/- The laws' helpers on slices of slices of integers: eqIntSS, markIntSS, heldIntSS. No condition but what each theorem names. -/
import Derived.Test.YtgpejighomohlaaTbl
namespace Go.Proofs.Ytgpejighomohlaa
set_option linter.unusedVariables false
set_option linter.unusedSimpArgs false
set_option maxRecDepth 20000
open Go.RowKit
set_option maxHeartbeats 1000000
theorem beqT_false {xs ys : List (List Int)} (j : Nat) (hj : j < xs.length) (h : (row xs j == row ys j) = false) : (xs == ys) = false := by
  rw [beq_eq_false_iff_ne]
  intro e
  subst e
  simp at h
theorem beqT_true {xs ys : List (List Int)} (hl : xs.length = ys.length) (h : ∀ j, j < xs.length → (row xs j == row ys j) = true) : (xs == ys) = true := by
  have : xs = ys := ext_row hl fun k hk => by have := h k hk; simpa using this
  rw [this]; simp
theorem eqIntSS_any {B1 B2 : Nat} (A1 A2 : Option Addr) (n1 c1 n2 c2 : Nat) {hs1 hs2 : List Hdr} (xs ys : List (List Int)) (w : World) (h1 : RdT w B1 A1 n1 hs1 xs) (hB1 : B1 ≤ w.heap.size) (h2 : RdT w B2 A2 n2 hs2 ys) (hB2 : B2 ≤ w.heap.size) :
    Calls Try.prog 41 #[.slice A1 n1 c1, .slice A2 n2 c2] w (Rv (.bool (xs == ys)) w) := by
  have hm1 := h1.max
  have hm2 := h2.max
  unfold maxLen at hm1 hm2
  have HL := Lib.hid (And.intro h1.len h2.len)
  by_cases hne : n1 = n2
  · subst hne
    rcases Nat.eq_zero_or_pos n1 with h0 | hpos
    · subst h0
      have hx : xs = [] := List.eq_nil_of_length_eq_zero h1.len
      have hy : ys = [] := List.eq_nil_of_length_eq_zero h2.len
      subst hx hy
      go_enter Try.func41, Try.ntmps41
      go_wp2
      go_loop [5] (fun i => i = .int .i64 0) (fun _ => 0)
      case atStart => rfl
      case round =>
        obtain rfl := hrel
        go_wp2
        go_ret
        exact ⟨rfl, Below.refl _ _⟩
    · obtain ⟨b1, o1, rfl, hb1, hx⟩ := h1.tbl hpos
      obtain ⟨b2, o2, rfl, hb2, hy⟩ := h2.tbl hpos
      go_enter Try.func41, Try.ntmps41
      go_wp2
      go_loopw [5] (fun i wr => ∃ k : Nat, k ≤ n1 ∧ i = .int .i64 k ∧ Below w.heap.size w wr ∧ Hid (∀ j, j < k → (row xs j == row ys j) = true)) (fun i _ => n1 - (intOf i).toNat)
      case atStart => exact ⟨0, by omega, rfl, Below.refl _ _, fun j hj => by omega⟩
      case round =>
        obtain ⟨k, hk, rfl, hb, he⟩ := hrel
        have hsz := hb.size
        by_cases hlt : k < n1
        · have cx := (hb.cell (p := ⟨b1, o1 + k, none⟩) (by show b1 < _; omega)).trans (hx k hlt)
          have cy := (hb.cell (p := ⟨b2, o2 + k, none⟩) (by show b2 < _; omega)).trans (hy k hlt)
          have rx := (h1.rows k hlt).1.below hb hB1
          have ry := (h2.rows k hlt).1.below hb hB2
          unfold slv at cx cy
          rcases hq : (row xs k == row ys k) with _ | _
          all_goals
            have HQ := Lib.hid hq
            clear hq
            clear hx hy
            go_wp2_with fail
            go_region_held3 (fun w' => w'.cell? ⟨b1, o1 + k, none⟩ = some (.slice (hdr hs1 k).1 (hdr hs1 k).2.1 (hdr hs1 k).2.2) ∧ w'.cell? ⟨b2, o2 + k, none⟩ = some (.slice (hdr hs2 k).1 (hdr hs2 k).2.1 (hdr hs2 k).2.2)) (first | exact ⟨cx, cy⟩ | exact ⟨(hb6.cell (by show b1 < wr.heap.size; omega)).trans cx, (hb6.cell (by show b2 < wr.heap.size; omega)).trans cy⟩) (first | (go_at_call 21; refine (eqIntS_rv _ _ _ _ _ _ (row xs k) (row ys k) _ (B1 := B1) (B2 := B2) (by exact rx) (by exact ry)).mono ?_; rintro e w6 ⟨rfl, hb6⟩; rw [HQ.out]))
          · go_wp2
            go_ret
            exact ⟨by rw [beqT_false k (by rw [HL.out.1]; exact hlt) HQ.out]; rfl, (Below.drew hb).trans (hb6.mono hsz)⟩
          · go_wp2
            go_roundw
            case rel => exact ⟨k + 1, by omega, by go_num, (Below.drew hb).trans (hb6.mono hsz), fun j hj => by
              by_cases hjk : j = k
              · subst hjk; exact HQ.out
              · exact he.out j (by omega)⟩
            case measure => simp [intOf]; omega
        · have hkn : k = n1 := by omega
          subst hkn
          clear hx hy
          go_wp2
          go_ret
          exact ⟨by rw [beqT_true (by rw [HL.out.1, HL.out.2]) (fun j hj => he.out j (by have := HL.out.1; omega))]; rfl, hb⟩
  · have hb : ((n1 : Int) != (n2 : Int)) = true := by simp; omega
    have Hn := Lib.hid (show (xs == ys) = false by
      rw [beq_eq_false_iff_ne]; intro e; subst e; have := HL.out; omega)
    go_enter Try.func41, Try.ntmps41
    go_wp2
    go_ret
    exact ⟨by rw [Hn.out]; rfl, Below.refl _ _⟩

/-- the marks in the rows, one row after the other -/
def mkT (k : Int) : List (List Int) → List (List Int)
  | [] => []
  | xs :: r => mkI k xs.length :: mkT (k + xs.length) r
/-- how many numbers the first m rows hold -/
def tot (xss : List (List Int)) : Nat → Nat
  | 0 => 0
  | m + 1 => tot xss m + (row xss m).length
theorem mkT_row : ∀ (xss : List (List Int)) (k : Int) (j : Nat), j < xss.length → row (mkT k xss) j = mkI (k + tot xss j) (row xss j).length
  | [], k, j, h => by simp at h
  | xs :: r, k, 0, h => by simp [mkT, row, tot]
  | xs :: r, k, j + 1, h => by
    have e1 : ∀ m, tot (xs :: r) (m + 1) = xs.length + tot r m := by
      intro m
      induction m with
      | zero => simp [tot, row]
      | succ m ih => rw [tot, ih, tot]; simp [row]; omega
    have := mkT_row r (k + xs.length) j (by simpa using h)
    have e2 : row (mkT k (xs :: r)) (j + 1) = row (mkT (k + xs.length) r) j := by simp [mkT, row]
    rw [e2, this, e1]
    have e3 : row (xs :: r) (j + 1) = row r j := by simp [row]
    rw [e3]
    congr 1
    omega
theorem mkT_len (xss : List (List Int)) : ∀ k, (mkT k xss).length = xss.length := by
  induction xss with
  | nil => intro k; rfl
  | cons a r ih => intro k; simp [mkT, ih]
/-- how many numbers there are -/
def flen (xss : List (List Int)) : Nat := xss.flatten.length
theorem tot_all (xss : List (List Int)) : tot xss xss.length = flen xss := by
  show tot xss xss.length = xss.flatten.length
  induction xss with
  | nil => rfl
  | cons a r ih =>
    have e1 : ∀ m, tot (a :: r) (m + 1) = a.length + tot r m := by
      intro m
      induction m with
      | zero => simp [tot, row]
      | succ m ih => rw [tot, ih, tot]; simp [row]; omega
    rw [List.length_cons, e1, show tot r r.length = r.flatten.length from ih]; simp
theorem tot_mono (xss : List (List Int)) {i j : Nat} (h : i ≤ j) : tot xss i ≤ tot xss j := by
  induction j with
  | zero => rw [show i = 0 by omega]; exact Nat.le_refl _
  | succ j ih =>
    by_cases e : i = j + 1
    · subst e; exact Nat.le_refl _
    · have := ih (by omega); simp only [tot]; omega
/-- what marking a table leaves -/
def RetMarkT (B0 B : Nat) (v : Value) (n : Nat) (hs : List Hdr) (xss : List (List Int)) (k : Int) (w : World) (e : Ending) (w' : World) : Prop :=
  e = .returned (.int .i64 (k + flen xss)) ∧ Chg B0 B w w' ∧ OwT w' B0 B v n hs (mkT k xss)
theorem markIntSS_any {B0 B : Nat} (A : Option Addr) (n c : Nat) (k : Int) {hs : List Hdr} (xss : List (List Int)) (w : World) (h : OwT w B0 B (.slice A n c) n hs xss) (hB : B ≤ w.heap.size) (hk0 : 0 ≤ k) (hk1 : k + flen xss ≤ 1000000000000) :
    Calls Try.prog 42 #[.slice A n c, .int .i64 k] w (RetMarkT B0 B (.slice A n c) n hs xss k w) := by
  have hm := h.max
  unfold maxLen at hm
  have HL := Lib.hid h.len
  have HT := Lib.hid (tot_all xss)
  rcases Nat.eq_zero_or_pos n with h0 | hpos
  · subst h0
    have hx : xss = [] := List.eq_nil_of_length_eq_zero h.len
    subst hx
    go_enter Try.func42, Try.ntmps42
    go_wp2
    go_loop [1, 5] (fun kk i => kk = .int .i64 k ∧ i = .int .i64 0) (fun _ _ => 0)
    case atStart => exact ⟨rfl, rfl⟩
    case round =>
      obtain ⟨rfl, rfl⟩ := hrel
      go_wp2
      go_ret
      exact ⟨by simp [flen], Chg.refl _ _ _, h⟩
  · obtain ⟨g, c', e, hg0, hg1, _, _, hc⟩ := h.addr hpos
    injection e with e1 e2 e3
    subst e1 e3
    have hc' := hc
    go_enter Try.func42, Try.ntmps42
    go_wp2
    go_loopw [1, 5] (fun kk i wr => ∃ (j : Nat) (D : List (List Int)), j ≤ n ∧ kk = .int .i64 (k + tot xss j) ∧ i = .int .i64 j ∧ Chg B0 B w wr ∧ OwT wr B0 B (.slice (some ⟨g, 0, none⟩) n c) n hs D ∧ Hid (∀ t, t < n → row D t = if t < j then mkI (k + tot xss t) (row xss t).length else row xss t)) (fun _ i _ => n - (intOf i).toNat)
    case atStart => exact ⟨0, xss, by omega, by simp [tot], rfl, Chg.refl _ _ _, h, fun t ht => by rw [if_neg (by omega)]⟩
    case round =>
      obtain ⟨j, D, hj, rfl, rfl, hch, hor, hP⟩ := hrel
      by_cases hlt : j < n
      · obtain ⟨g', c2, e, _, _, _, _, hcc⟩ := hor.addr hpos
        injection e with e1 e2 e3
        injection e1 with e1
        injection e1 with e1
        subst e1
        obtain ⟨hcl, hfz⟩ := hcc j hlt
        unfold slv at hcl
        obtain ⟨hr, hd⟩ := hor.rows j hlt
        have hrow := hP.out j hlt
        rw [if_neg (by omega)] at hrow
        have t1 := tot_mono xss (show j + 1 ≤ n by omega)
        have t2 : tot xss n = flen xss := by rw [← HT.out, HL.out]
        have t3 : tot xss (j + 1) = tot xss j + (row xss j).length := rfl
        have hlen : (row xss j).length = (hdr hs j).2.1 := by rw [← hrow]; exact hr.1
        have HE := Lib.hid (And.intro hrow (And.intro hlen t3))
        clear hc hc' hcc e2 e3
        rw [hrow] at hr
        have hkj : k + (tot xss j : Int) + ((hdr hs j).2.1 : Int) ≤ 1000000000000 := by rw [← hlen]; omega
        have hkj0 : 0 ≤ k + (tot xss j : Int) := by omega
        clear hrow hlen t3 t2 t1
        rcases Nat.eq_zero_or_pos (hdr hs j).2.1 with hz | hz
        · have HZ := Lib.hid hz
          have hemp : row xss j = [] := List.eq_nil_of_length_eq_zero (by rw [HE.out.2.1, hz])
          clear hz
          go_wp2_with fail
          refine (markIntS_any (hdr hs j).1 (hdr hs j).2.1 _ (k + tot xss j) (row xss j) _ (B0 := 0) (B := 0) (by rw [HZ.out, hemp]; exact OwI.emp _ _ _ _) hkj0 hkj).mono ?_
          rintro e w6 ⟨rfl, hc6, _⟩
          have hor6 := hor.keep (w' := w6) fun b _ _ hs => hc6.block b hs (by omega)
          go_wp2
          go_roundw
          case rel =>
            refine ⟨j + 1, D, by omega, by rw [HE.out.2.2, HE.out.2.1]; go_num, by go_num, hch.trans hc6.ofNone, hor6, fun t ht => ?_⟩
            rw [hP.out t ht]
            by_cases htj : t = j
            · subst htj
              rw [if_neg (by omega), if_pos (by omega), hemp]; rfl
            · by_cases h1 : t < j
              · rw [if_pos h1, if_pos (by omega)]
              · rw [if_neg h1, if_neg (by omega)]
          case measure => simp [intOf]; omega
        · obtain ⟨b, o, eA⟩ := hr.addr hz
          rw [eA] at hr
          have hbl := hr.blk hz
          have hrt := hr.tight
          clear hr
          have EA := Lib.hid eA
          have HZ := Lib.hid hz
          clear eA hz
          go_wp2_with fail
          refine (markIntS_any (hdr hs j).1 (hdr hs j).2.1 _ (k + tot xss j) (row xss j) _ (B0 := b) (B := b + 1) (by rw [EA.out]; exact hrt) hkj0 hkj).mono ?_
          rintro e w6 ⟨rfl, hc6, ho6⟩
          rw [EA.out] at ho6
          have hor6 := hor.setRow hlt HZ.out EA.out hc6 ho6
          go_wp2
          go_roundw
          case rel =>
            refine ⟨j + 1, _, by omega, by rw [HE.out.2.2, HE.out.2.1]; go_num, by go_num, hch.trans (hc6.mono hbl.1 (by omega)), hor6, fun t ht => ?_⟩
            rw [row_set (by rw [hor.len]; exact hlt)]
            by_cases htj : t = j
            · subst htj
              rw [if_pos rfl, if_pos (by omega), HE.out.2.1]
            · rw [if_neg htj, hP.out t ht]
              by_cases h1 : t < j
              · rw [if_pos h1, if_pos (by omega)]
              · rw [if_neg h1, if_neg (by omega)]
          case measure => simp [intOf]; omega
      · have hjn : j = n := by omega
        subst hjn
        have hD : D = mkT k xss := by
          refine ext_row (by rw [hor.len, mkT_len, HL.out]) fun t ht => ?_
          rw [hor.len] at ht
          rw [hP.out t ht, if_pos ht, mkT_row _ _ _ (by rw [HL.out]; exact ht)]
        subst hD
        have HTT := Lib.hid (show tot xss j = flen xss by rw [← HT.out, HL.out])
        clear hc hc'
        go_wp2
        go_ret
        exact ⟨by rw [HTT.out]; rfl, hch, hor⟩
theorem heldIntSS_any {B : Nat} (A : Option Addr) (n c : Nat) (k : Int) {hs : List Hdr} (xss : List (List Int)) (w : World) (h : RdT w B A n hs (mkT k xss)) (hB : B ≤ w.heap.size) (hk0 : 0 ≤ k) (hk1 : k + flen xss ≤ 1000000000000) :
    Calls Try.prog 43 #[.slice A n c, .int .i64 k] w (Rv (.int .i64 (k + flen xss)) w) := by
  have hm := h.max
  unfold maxLen at hm
  have HL := Lib.hid (show xss.length = n by rw [← h.len, mkT_len])
  have HT := Lib.hid (tot_all xss)
  rcases Nat.eq_zero_or_pos n with h0 | hpos
  · subst h0
    have hx : xss = [] := List.eq_nil_of_length_eq_zero HL.out
    subst hx
    go_enter Try.func43, Try.ntmps43
    go_wp2
    go_loop [1, 5] (fun kk i => kk = .int .i64 k ∧ i = .int .i64 0) (fun _ _ => 0)
    case atStart => exact ⟨rfl, rfl⟩
    case round =>
      obtain ⟨rfl, rfl⟩ := hrel
      go_wp2
      go_ret
      exact ⟨by simp [flen], Below.refl _ _⟩
  · obtain ⟨b1, o1, rfl, hb1, hx⟩ := h.tbl hpos
    go_enter Try.func43, Try.ntmps43
    go_wp2
    go_loopw [1, 5] (fun kk i wr => ∃ j : Nat, j ≤ n ∧ kk = .int .i64 (k + tot xss j) ∧ i = .int .i64 j ∧ Below w.heap.size w wr) (fun _ i _ => n - (intOf i).toNat)
    case atStart => exact ⟨0, by omega, by simp [tot], rfl, Below.refl _ _⟩
    case round =>
      obtain ⟨j, hj, rfl, rfl, hb⟩ := hrel
      by_cases hlt : j < n
      · have cx := (hb.cell (p := ⟨b1, o1 + j, none⟩) (by show b1 < _; omega)).trans (hx j hlt)
        unfold slv at cx
        have hr := (h.rows j hlt).1.below hb hB
        rw [mkT_row _ _ _ (by rw [HL.out]; exact hlt)] at hr
        have t1 := tot_mono xss (show j + 1 ≤ n by omega)
        have t2 : tot xss n = flen xss := by rw [← HT.out, HL.out]
        have t3 : tot xss (j + 1) = tot xss j + (row xss j).length := rfl
        have hlen : (row xss j).length = (hdr hs j).2.1 := by have := hr.1; rw [mkI_len] at this; exact this
        rw [hlen] at hr
        have HE := Lib.hid (And.intro hlen t3)
        have hkj : k + (tot xss j : Int) + ((hdr hs j).2.1 : Int) ≤ 1000000000000 := by rw [← hlen]; omega
        have hkj0 : 0 ≤ k + (tot xss j : Int) := by omega
        have hge : ¬ (k + (tot xss j : Int) + ((hdr hs j).2.1 : Int)) < 0 := by omega
        clear hx hlen t3 t2 t1
        go_wp2_with fail
        refine (heldIntS_rv (hdr hs j).1 (hdr hs j).2.1 _ (k + tot xss j) _ (B := B) hr hkj0 hkj).mono ?_
        rintro e w6 ⟨rfl, hb6⟩
        go_wp2
        go_roundw
        case rel => exact ⟨j + 1, by omega, by rw [HE.out.2, HE.out.1]; go_num, by go_num, hb.trans (hb6.mono hb.size)⟩
        case measure => simp [intOf]; omega
      · have hjn : j = n := by omega
        subst hjn
        have HTT := Lib.hid (show tot xss j = flen xss by rw [← HT.out, HL.out])
        clear hx
        go_wp2
        go_ret
        exact ⟨by rw [HTT.out]; rfl, hb⟩
end Go.Proofs.Ytgpejighomohlaa
