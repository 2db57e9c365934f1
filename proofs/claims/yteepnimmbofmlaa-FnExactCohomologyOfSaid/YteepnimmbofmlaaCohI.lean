/- CohomologyOf of the program. No condition but what each theorem names. -/
import Derived.Test.YteepnimmbofmlaaCohV
import Derived.Test.YteepnimmbofmlaaSpanW
import Derived.Test.YteepnimmbofmlaaKernW
import Derived.Test.YteepnimmbofmlaaSumW
import Derived.Deep.RegionHeld3
import Derived.Deep.DeepCutAuto
namespace Go.Proofs.Yteepnimmbofmlaa
set_option linter.unusedVariables false
set_option linter.unusedSimpArgs false
set_option maxRecDepth 20000
open Go.RowKit Go.Sort
set_option maxHeartbeats 4000000
/-- one equation: the number j of every differential -/
def cqL (N K : Nat) (p : Int) (d : List Int) (j m : Nat) : List Int := (List.range m).map fun t => dmF N K p d t j
theorem cqL_succ (N K : Nat) (p : Int) (d : List Int) (j m : Nat) : cqL N K p d j (m + 1) = cqL N K p d j m ++ [dmF N K p d m j] := by simp [cqL, List.range_succ]
theorem OwT.congrR {w : World} {lo hi n : Nat} {v : Value} {hs : List Hdr} {xss yss : List (List Int)} (h : OwT w lo hi v n hs xss) (e : xss = yss) : OwT w lo hi v n hs yss := e ▸ h
theorem ownsRow_at {w w' : World} {base : Nat} {e : TypeId} {v : Value} {n : Nat} {xs : List Value} (h : w.ownsRow base e 1 v n xs) (hk : ∀ b, v.ownBlock = some b → b < w.heap.size → w'.heap[b]? = w.heap[b]?) : w'.ownsRow base e 1 v n xs := by
  refine ⟨h.1, ?_⟩
  rcases h.2 with h1 | ⟨g, cap, cur, e1, hb, hg, r⟩
  · exact .inl h1
  · have hlt : g < w.heap.size := by
      rcases Nat.lt_or_ge g w.heap.size with h' | h'
      · exact h'
      · rw [Array.getElem?_eq_none h'] at hg; cases hg
    exact .inr ⟨g, cap, cur, e1, hb, (hk g (by rw [e1]; rfl) hlt).trans hg, r⟩
/-- a table of the call's own and one row more, read -/
theorem RdT.plus {w w3 : World} {lo hi n B m c : Nat} {v v' : Value} {hs : List Hdr} {xss : List (List Int)} {A : Option Addr} {ys : List Int} {T : TypeId} (h : OwT w lo hi v n hs xss) (hhi : hi ≤ w.heap.size) (hr : RdI w B A m ys) (hd : Hd A m c) (hB : B ≤ lo) (hlo : lo ≤ w.heap.size)
    (hown : w3.ownsRow lo 22 1 v' (n + 1) (hs.map slv ++ [.slice A m c])) (hg : (w.alloc (.cells #[.slice A m c] T)).grownBy w3 v.ownBlock) (hm : n + 1 ≤ maxLen) :
    ∃ A' c', v' = .slice A' (n + 1) c' ∧ Hd A' (n + 1) c' ∧ RdT w3 w3.heap.size A' (n + 1) (hs ++ [(A, m, c)]) (xss ++ [ys]) := by
  obtain ⟨A', c', rfl, hd'⟩ := own_hd hown
  have hgs := hg.size
  rw [World.size_alloc] at hgs
  have hl := h.hlen
  have hx := h.len
  have hkeep : ∀ b, b < w.heap.size → v.ownBlock ≠ some b → w3.heap[b]? = w.heap[b]? := fun b hb hne => (hg.block b (by rw [World.size_alloc]; omega) (fun e => hne e.symm)).trans (Below.heap_alloc _ _ _ hb)
  refine ⟨A', c', rfl, hd', by simp [hx], hm, fun hn => ?_, fun j hj => ?_⟩
  · obtain ⟨b, o, e, hb, hc⟩ := ownsRow_cells (hs := hs ++ [(A, m, c)]) (by rw [List.map_append]; exact hown) hn
    exact ⟨b, o, e, hb, hc⟩
  · by_cases hjn : j < n
    · rw [hdr_app (by omega), row_app (by omega)]
      obtain ⟨r1, r2⟩ := h.rows j hjn
      refine ⟨⟨r1.1, r1.2.1, fun hp => ?_⟩, r2⟩
      obtain ⟨b, o, e, hb0, hb1, hcl⟩ := r1.2.2 hp
      have hk := hkeep b (by omega) (h.sepT j b o hjn hp e)
      exact ⟨b, o, e, by omega, fun i hi => (World.cell?_of_block (w := w) hk).trans (hcl i hi).1⟩
    · obtain rfl : j = n := by omega
      rw [show hdr (hs ++ [(A, m, c)]) j = (A, m, c) by rw [← hl]; exact hdr_end, show row (xss ++ [ys]) j = ys by rw [← hx]; exact row_end]
      refine ⟨⟨hr.1, hr.2.1, fun hp => ?_⟩, hd⟩
      obtain ⟨b, o, e, hb1, hcl⟩ := hr.2.2 hp
      have hk := hkeep b (by omega) (fun e2 => by have := (h.tbl.lt b e2).1; omega)
      exact ⟨b, o, e, by omega, fun i hi => (World.cell?_of_block (w := w) hk).trans (hcl i hi)⟩
/-- some of a table's rows, in order, as a table of the call's own -/
theorem OwT.pick {w : World} {lo c0 n m lo2 : Nat} {v v2 : Value} {hs : List Hdr} {xss : List (List Int)} {I : List Nat} {f : Nat → List Int} (h : OwT w lo c0 v n hs xss) (hI : ∀ x ∈ I, x < n) (hsrt : I.Pairwise (· < ·)) (hf : ∀ i, i < n → row xss i = f i)
    (hown : w.ownsRow c0 22 1 v2 m ((I.map (hdr hs)).map slv)) (h1 : lo2 ≤ lo) (h2 : lo2 ≤ c0) (h3 : c0 ≤ w.heap.size) : OwT w lo2 w.heap.size v2 m (I.map (hdr hs)) (I.map f) := by
  have hm : I.length = m := by have := hown.1; simpa using this
  have hat : ∀ j (hj : j < m), hdr (I.map (hdr hs)) j = hdr hs (I[j]'(by omega)) ∧ row (I.map f) j = row xss (I[j]'(by omega)) ∧ I[j]'(by omega) < n := fun j hj => by
    have hlt : I[j]'(by omega) < n := hI _ (List.getElem_mem _)
    refine ⟨?_, ?_, hlt⟩
    · rw [hdr_lt (by simpa using (show j < I.length by omega))]; simp
    · rw [row_lt (by simpa using (show j < I.length by omega)), hf _ hlt]; simp
  refine ⟨?_, fun b e => (hown.lt b e).2, by simpa using hm, fun j hj => ?_, fun j b o hj hp e => ?_, fun i j b o b' o' hij hj hp hp' e e' => ?_⟩
  · refine ⟨hown.1, ?_⟩
    rcases hown.2 with q | ⟨g, cap, cur, e1, hb, r⟩
    · exact .inl q
    · exact .inr ⟨g, cap, cur, e1, by omega, r⟩
  · obtain ⟨e1, e2, e3⟩ := hat j hj
    rw [e1, e2]
    obtain ⟨r1, r2⟩ := h.rows _ e3
    exact ⟨(r1.down h1).up h3, r2⟩
  · obtain ⟨e1, e2, e3⟩ := hat j hj
    rw [e1] at hp e
    have r1 := (h.rows _ e3).1
    rw [e] at r1
    have := (r1.blk hp).2
    intro e4
    have := (hown.lt b e4).1
    omega
  · obtain ⟨e1, e2, e3⟩ := hat i (by omega)
    obtain ⟨e4, e5, e6⟩ := hat j hj
    rw [e1] at hp e
    rw [e4] at hp' e'
    have hlt : I[i]'(by omega) < I[j]'(by omega) := List.pairwise_iff_getElem.1 hsrt i j (by omega) (by omega) hij
    exact h.sep _ _ b o b' o' hlt e6 hp hp' e e'
theorem iCoh_no {B : Nat} (p q x : Int) (n k : Nat) (A : Option Addr) (d : List Int) (w : World) (h : RdI w B A n d) (hd : Hd A n k) (hB : B ≤ w.heap.size) (hno : (okA p q d && decide (q ≤ 7) && (decide (0 ≤ x) && decide (x ≤ q))) = false) :
    Calls Try.prog 15 #[.agg #[.int .i64 p, .int .i64 q, .slice A n k], .int .i64 x] w (RetT [] w) := by
  rcases h1 : okA p q d with _ | _
  · have HC := Lib.hid h1
    clear h1 hno
    go_enter Try.func15, Try.ntmps15
    go_wp2_with fail
    refine (iAlg_any p q n k A d _ (B := B) (by exact h.below ((by repeat' (first | (with_reducible exact Below.refl _ _) | (with_reducible refine Below.setCell ?_ (by first | exact Nat.le_refl _ | omega | (simp only [World.size_alloc, World.size_setCell, World.heap_drewN]; omega) | (simp; omega)) _) | (with_reducible refine Below.alloc ?_ (by first | exact Nat.le_refl _ | omega | (simp only [World.size_alloc, World.size_setCell, World.heap_drewN]; omega) | (simp; omega)) _) | (with_reducible refine below_drewN ?_ _) | (with_reducible refine Below.drew ?_))) : Below w.heap.size w _) hB) hd (by first | exact Nat.le_refl _ | omega | (simp only [World.size_alloc, World.size_setCell, World.heap_drewN]; omega) | (simp; omega))).mono ?_
    rintro e w1 ⟨rfl, hb1⟩
    have b1 : Box w1 (w.heap.size) #[.int .i64 p, .int .i64 q, .slice A n k] := by
      have hq := (Box.new w #[.int .i64 p, .int .i64 q, .slice A n k] 29).below hb1 (by first | omega | (simp only [World.size_alloc]; omega) | (simp; omega))
      (try simp only [World.size_alloc] at hq)
      exact hq
    have hq1 : Below w.heap.size w w1 := (by repeat' (first | (with_reducible exact Below.refl _ _) | (with_reducible refine Below.setCell ?_ (by first | exact Nat.le_refl _ | omega | (simp only [World.size_alloc, World.size_setCell, World.heap_drewN]; omega) | (simp; omega)) _) | (with_reducible refine Below.alloc ?_ (by first | exact Nat.le_refl _ | omega | (simp only [World.size_alloc, World.size_setCell, World.heap_drewN]; omega) | (simp; omega)) _) | (with_reducible refine below_drewN ?_ _) | (with_reducible refine Below.drew ?_) | (with_reducible refine Below.trans ?_ (hb1.mono (by first | exact Nat.le_refl _ | omega | (simp only [World.size_alloc, World.size_setCell, World.heap_drewN]; omega) | (simp; omega))))))
    have hs1 := hb1.size
    simp only [World.size_alloc] at hs1
    clear hb1
    rw [HC.out]
    go_wp2
    go_ret
    exact ⟨none, 0, 0, rfl, Hd.nil, hq1, [], OwT.nil _ _ _⟩
  · have HC := Lib.hid h1
    rcases h2 : decide (q ≤ 7) with _ | _
    · have hq7 : decide (7 < q) = true := by simp at h2 ⊢; omega
      have hq8 : 7 < q := by simp at h2; omega
      clear h1 h2 hno
      go_enter Try.func15, Try.ntmps15
      go_wp2_with fail
      refine (iAlg_any p q n k A d _ (B := B) (by exact h.below ((by repeat' (first | (with_reducible exact Below.refl _ _) | (with_reducible refine Below.setCell ?_ (by first | exact Nat.le_refl _ | omega | (simp only [World.size_alloc, World.size_setCell, World.heap_drewN]; omega) | (simp; omega)) _) | (with_reducible refine Below.alloc ?_ (by first | exact Nat.le_refl _ | omega | (simp only [World.size_alloc, World.size_setCell, World.heap_drewN]; omega) | (simp; omega)) _) | (with_reducible refine below_drewN ?_ _) | (with_reducible refine Below.drew ?_))) : Below w.heap.size w _) hB) hd (by first | exact Nat.le_refl _ | omega | (simp only [World.size_alloc, World.size_setCell, World.heap_drewN]; omega) | (simp; omega))).mono ?_
      rintro e w1 ⟨rfl, hb1⟩
      have b1 : Box w1 (w.heap.size) #[.int .i64 p, .int .i64 q, .slice A n k] := by
        have hq := (Box.new w #[.int .i64 p, .int .i64 q, .slice A n k] 29).below hb1 (by first | omega | (simp only [World.size_alloc]; omega) | (simp; omega))
        (try simp only [World.size_alloc] at hq)
        exact hq
      have hq1 : Below w.heap.size w w1 := (by repeat' (first | (with_reducible exact Below.refl _ _) | (with_reducible refine Below.setCell ?_ (by first | exact Nat.le_refl _ | omega | (simp only [World.size_alloc, World.size_setCell, World.heap_drewN]; omega) | (simp; omega)) _) | (with_reducible refine Below.alloc ?_ (by first | exact Nat.le_refl _ | omega | (simp only [World.size_alloc, World.size_setCell, World.heap_drewN]; omega) | (simp; omega)) _) | (with_reducible refine below_drewN ?_ _) | (with_reducible refine Below.drew ?_) | (with_reducible refine Below.trans ?_ (hb1.mono (by first | exact Nat.le_refl _ | omega | (simp only [World.size_alloc, World.size_setCell, World.heap_drewN]; omega) | (simp; omega))))))
      have hs1 := hb1.size
      simp only [World.size_alloc] at hs1
      clear hb1
      rw [HC.out]
      obtain ⟨x0, x1, x2⟩ := b1.three
      go_wp2
      go_ret
      exact ⟨none, 0, 0, rfl, Hd.nil, hq1, [], OwT.nil _ _ _⟩
    · have HI := Lib.hid (show (decide (0 ≤ x) && decide (x ≤ q)) = false by rw [h1, h2, Bool.true_and, Bool.true_and] at hno; exact hno)
      have hq7 : decide (7 < q) = false := by simp at h2 ⊢; omega
      have hq8 : ¬ 7 < q := by simp at h2; omega
      clear h1 h2 hno
      go_enter Try.func15, Try.ntmps15
      go_wp2_with fail
      refine (iAlg_any p q n k A d _ (B := B) (by exact h.below ((by repeat' (first | (with_reducible exact Below.refl _ _) | (with_reducible refine Below.setCell ?_ (by first | exact Nat.le_refl _ | omega | (simp only [World.size_alloc, World.size_setCell, World.heap_drewN]; omega) | (simp; omega)) _) | (with_reducible refine Below.alloc ?_ (by first | exact Nat.le_refl _ | omega | (simp only [World.size_alloc, World.size_setCell, World.heap_drewN]; omega) | (simp; omega)) _) | (with_reducible refine below_drewN ?_ _) | (with_reducible refine Below.drew ?_))) : Below w.heap.size w _) hB) hd (by first | exact Nat.le_refl _ | omega | (simp only [World.size_alloc, World.size_setCell, World.heap_drewN]; omega) | (simp; omega))).mono ?_
      rintro e w1 ⟨rfl, hb1⟩
      have b1 : Box w1 (w.heap.size) #[.int .i64 p, .int .i64 q, .slice A n k] := by
        have hq := (Box.new w #[.int .i64 p, .int .i64 q, .slice A n k] 29).below hb1 (by first | omega | (simp only [World.size_alloc]; omega) | (simp; omega))
        (try simp only [World.size_alloc] at hq)
        exact hq
      have hq1 : Below w.heap.size w w1 := (by repeat' (first | (with_reducible exact Below.refl _ _) | (with_reducible refine Below.setCell ?_ (by first | exact Nat.le_refl _ | omega | (simp only [World.size_alloc, World.size_setCell, World.heap_drewN]; omega) | (simp; omega)) _) | (with_reducible refine Below.alloc ?_ (by first | exact Nat.le_refl _ | omega | (simp only [World.size_alloc, World.size_setCell, World.heap_drewN]; omega) | (simp; omega)) _) | (with_reducible refine below_drewN ?_ _) | (with_reducible refine Below.drew ?_) | (with_reducible refine Below.trans ?_ (hb1.mono (by first | exact Nat.le_refl _ | omega | (simp only [World.size_alloc, World.size_setCell, World.heap_drewN]; omega) | (simp; omega))))))
      have hs1 := hb1.size
      simp only [World.size_alloc] at hs1
      clear hb1
      rw [HC.out]
      obtain ⟨x0, x1, x2⟩ := b1.three
      go_wp2_with fail
      refine (inside_any x 0 q _).mono ?_
      rw [HI.out]
      rintro e w2 ⟨rfl, rfl⟩
      go_wp2
      go_ret
      exact ⟨none, 0, 0, rfl, Hd.nil, hq1, [], OwT.nil _ _ _⟩
set_option maxRecDepth 100000 in
theorem iCoh_ok {B : Nat} (p : Int) (N K n k : Nat) (A : Option Addr) (d : List Int) (w : World) (h : RdI w B A n d) (hd : Hd A n k) (hB : B ≤ w.heap.size) (hN : N ≤ 7) (hK : K ≤ N) (hp : isP p = true) (hl : d.length = N * N * N) (hr : resB d p = true) (hok : okA p N d = true) :
    Calls Try.prog 15 #[.agg #[.int .i64 p, .int .i64 N, .slice A n k], .int .i64 K] w (RetT (chL N K p d (clR N K p d)) w) := by
  obtain ⟨hp1, hp2⟩ := isP_bd hp
  have HP := Lib.hid hp
  have HC := Lib.hid hok
  obtain ⟨KI, hKI⟩ : ∃ KI : Int, KI = (K : Int) := ⟨_, rfl⟩
  have HI := Lib.hid (show (decide ((0 : Int) ≤ KI) && decide (KI ≤ (N : Int))) = true by rw [hKI]; simp; omega)
  have HL := Lib.hid (show n = N * N * N by rw [← hl]; exact h.1.symm)
  have HR := Lib.hid hr
  have hR35 := nS_le hN (show K ≤ 8 by omega)
  have HZ := Lib.hid (show okZ p (nS N K) (nS N K) from ⟨hp, ⟨by omega, by omega⟩, by omega, by omega⟩)
  have hd7 : decide (7 < (N : Int)) = false := by simp; omega
  have hd8 : ¬ 7 < (N : Int) := by omega
  have HKI := Lib.hid hKI
  rw [← hKI]
  clear hok hp hl hr hKI
  go_enter Try.func15, Try.ntmps15
  go_wp2_with fail
  refine (iAlg_any p N n k A d _ (B := B) (by exact h.below ((by repeat' (first | (with_reducible exact Below.refl _ _) | (with_reducible refine Below.setCell ?_ (by first | exact Nat.le_refl _ | omega | (simp only [World.size_alloc, World.size_setCell, World.heap_drewN]; omega) | (simp; omega)) _) | (with_reducible refine Below.alloc ?_ (by first | exact Nat.le_refl _ | omega | (simp only [World.size_alloc, World.size_setCell, World.heap_drewN]; omega) | (simp; omega)) _) | (with_reducible refine below_drewN ?_ _) | (with_reducible refine Below.drew ?_))) : Below w.heap.size w _) hB) hd (by first | exact Nat.le_refl _ | omega | (simp only [World.size_alloc, World.size_setCell, World.heap_drewN]; omega) | (simp; omega))).mono ?_
  rintro e w1 ⟨rfl, hb1⟩
  have b1 : Box w1 (w.heap.size) #[.int .i64 p, .int .i64 N, .slice A n k] := by
    have hq := (Box.new w #[.int .i64 p, .int .i64 N, .slice A n k] 29).below hb1 (by first | omega | (simp only [World.size_alloc]; omega) | (simp; omega))
    (try simp only [World.size_alloc] at hq)
    exact hq
  have hq1 : Below w.heap.size w w1 := (by repeat' (first | (with_reducible exact Below.refl _ _) | (with_reducible refine Below.setCell ?_ (by first | exact Nat.le_refl _ | omega | (simp only [World.size_alloc, World.size_setCell, World.heap_drewN]; omega) | (simp; omega)) _) | (with_reducible refine Below.alloc ?_ (by first | exact Nat.le_refl _ | omega | (simp only [World.size_alloc, World.size_setCell, World.heap_drewN]; omega) | (simp; omega)) _) | (with_reducible refine below_drewN ?_ _) | (with_reducible refine Below.drew ?_) | (with_reducible refine Below.trans ?_ (hb1.mono (by first | exact Nat.le_refl _ | omega | (simp only [World.size_alloc, World.size_setCell, World.heap_drewN]; omega) | (simp; omega))))))
  have hs1 := hb1.size
  simp only [World.size_alloc] at hs1
  have g1 := h.below hq1 hB
  clear hb1
  rw [HC.out]
  clear h
  obtain ⟨x0, x1, x2⟩ := b1.three
  go_wp2_with fail
  refine (inside_any KI 0 N _).mono ?_
  rw [HI.out]
  rintro e w2 ⟨rfl, rfl⟩
  go_wp2_with (go_at_call 42; refine (newLie_any p N A n k _).mono ?_; rintro e w3 ⟨rfl, hb3⟩; clear x0 x1 x2; have hs3 := hb3.size; have b3 := (b1.below hb3 (by omega)).alloc (.cells #[.int .i64 p, .int .i64 N, .slice A n k] 55); have hy3 := Box.new w3 #[.int .i64 p, .int .i64 N, .slice A n k] 55; have g3 := (g1.below hb3 (by omega)).alloc (by omega) (.cells #[.int .i64 p, .int .i64 N, .slice A n k] 55); have hq3 := (hq1.trans (hb3.mono hq1.size)).alloc (by omega) (.cells #[.int .i64 p, .int .i64 N, .slice A n k] 55); obtain ⟨x0, x1, x2⟩ := b3.three)
  obtain ⟨W3, hW3⟩ : ∃ W, W = w3.alloc (.cells #[.int .i64 p, .int .i64 N, .slice A n k] 55) := ⟨_, rfl⟩
  have hW3s : w3.heap.size + 1 ≤ W3.heap.size ∧ W3.heap.size ≤ w3.heap.size + 1 := by rw [hW3]; simp
  obtain ⟨gl, hgl⟩ : ∃ g, g = w3.heap.size := ⟨_, rfl⟩
  rw [← hW3] at b3 hy3 g3 hq3 x0 x1 x2 ⊢
  rw [← hgl] at hy3 hs3 hW3s ⊢
  clear hW3 hgl b1 g1 hq1 hb3
  have cS : Calls Try.prog 43 #[.int .i64 N, .int .i64 KI] W3 (RetT (subs N K 0) W3) := by rw [HKI.out]; exact iSub_ok N K _ hN (by omega)
  refine cS.mono ?_
  rintro e w4 ⟨AS, nS5, kS, rfl, hdS, hb4, hsS, hTS⟩
  obtain rfl : nS N K = nS5 := hTS.len
  clear hTS cS
  have hs4 := hb4.size
  have b4 := b3.below hb4 (by omega)
  have y4 := hy3.below hb4 (by omega)
  have g4 := g3.below hb4 (by omega)
  have hq4 := hq3.trans (hb4.mono (by omega))
  clear x0 x1 x2 hb4 b3 hy3 g3 hq3
  obtain ⟨x0, x1, x2⟩ := b4.three
  go_wp2_with fail
  refine (iUnit_ok p (nS N K) _ HZ.out).mono ?_
  rintro e w5 ⟨A5, n5, k5, rfl, hd5, hb5, ho5⟩
  have hs5 := hb5.size
  have HN5 := Lib.hid (show n5 = nS N K * nS N K by rw [← ho5.1, unitD_len])
  have hNN : nS N K * nS N K ≤ 35 * 35 := Nat.mul_le_mul hR35 hR35
  go_wp2_with fail
  refine (rowsOf_any (B := w5.heap.size) p (nS N K) (nS N K) n5 k5 A5 _ _ ho5.rd hd5 (Nat.le_refl _) (by omega) (by omega) HN5.out (by rw [HN5.out]; omega)).mono ?_
  rintro e w6 ⟨A6, n6, k6, rfl, hd6, hb6, hs6', hT6⟩
  have hb46 : Below w4.heap.size w4 w6 := hb5.trans (hb6.mono hs5)
  obtain rfl : nS N K = n6 := by have := hT6.len; rw [rowsD_len] at this; exact this
  have hs6 := hb46.size
  have hT6 := hT6.down hs5
  have b6 := b4.below hb46 (by omega)
  have y6 := y4.below hb46 (by omega)
  have g6 := g4.below hb46 (by omega)
  have hq6 := hq4.trans (hb46.mono (by omega))
  clear x0 x1 x2 hb5 hb6 hb46 ho5 b4 y4 g4 hq4
  obtain ⟨x0, x1, x2⟩ := b6.three
  go_upto_if 49 with fail
  go_cut [7] (fun s7 wx => ∃ (Ac : Option Addr) (kc : Nat) (hsC : List Hdr), s7 = .slice Ac (clR N K p d) kc ∧ Hd Ac (clR N K p d) kc ∧ OwT wx w4.heap.size wx.heap.size (.slice Ac (clR N K p d) kc) (clR N K p d) hsC (tabR (clR N K p d) (nS N K) (clF N K p d)) ∧ Below w6.heap.size w6 wx)
  case first =>
    by_cases hKN : K + 1 ≤ N
    · have hlt : decide (KI < (N : Int)) = true := by have := HKI.out; simp; omega
      have hlt2 : KI < (N : Int) := by have := HKI.out; omega
      have HCI := Lib.hid (cl_in (p := p) d hKN)
      have hC35 := nS_le hN (show K + 1 ≤ 8 by omega)
      have hRp := nS_pos hN (show K ≤ N by omega)
      have HGF := Lib.hid (tabR_FF (nS N K) (nS N (K + 1)) (dmF N K p d))
      have HFF := Lib.hid (tabR_FF (nS N (K + 1)) (nS N K) (fun i t => dmF N K p d t i))
      have HFR := Lib.hid (show ResF (fun i t => dmF N K p d t i) p from fun i t => dmF_res (by omega) d t i)
      have hG := GrwT.start w6 22 rfl
      have b7 := b6.alloc (.cells #[] 22)
      have y7 := y6.alloc (.cells #[] 22)
      have g7 := g6.alloc (by omega) (.cells #[] 22)
      have hqq : Below w6.heap.size w6 (w6.alloc (.cells #[] 22)) := (Below.refl _ _).alloc (Nat.le_refl _) _
      have cD : Calls Try.prog 46 #[.agg #[.int .i64 p, .int .i64 N, .slice A n k], .int .i64 KI] (w6.alloc (.cells #[] 22)) (RetT (tabR (nS N K) (nS N (K + 1)) (dmF N K p d)) (w6.alloc (.cells #[] 22))) := by
        rw [HKI.out]; exact differentials_any (B := B) p N K n k A d _ g7 hd (by simp; omega) hN hKN HL.out hp1 hp2 HR.out
      clear x0 x1 x2
      obtain ⟨x0, x1, x2⟩ := b7.three
      obtain ⟨y0, y1, y2⟩ := y7.three
      go_wp2_with fail
      refine cD.mono ?_
      rintro e w8 ⟨A8, n8, k8, rfl, hd8', hb8, hs8', hT8⟩
      obtain rfl : nS N K = n8 := by have := hT8.len; rw [tabR_len] at this; exact this
      have hs8 := hb8.size
      rw [World.size_alloc] at hs8
      have hG := GrwT.start' w6 22 (w1 := w8) rfl (by simpa using hb8)
      rw [World.size_alloc] at hT8
      have b8 := b7.below hb8 (by simp; omega)
      have hq8 : Below w6.heap.size w6 w8 := hqq.trans (hb8.mono (by simp))
      have hTr := hT8.rd
      obtain ⟨bT, oT, rfl, hbT, hcT⟩ := hTr.tbl (by omega)
      have hc0 := hcT 0 hRp
      unfold slv at hc0
      rw [Nat.add_zero] at hc0
      obtain ⟨hr0, -⟩ := hTr.rows 0 hRp
      have hrl : (Go.Proofs.Yteepnimmbofmlaa.hdr hs8' 0).2.1 = nS N (K + 1) := by rw [← hr0.1]; exact (HGF.out 0 hRp).1
      rw [hrl] at hc0
      obtain ⟨Ar0, hAr0⟩ : ∃ Ar, Ar = (Go.Proofs.Yteepnimmbofmlaa.hdr hs8' 0).1 := ⟨_, rfl⟩
      obtain ⟨kr0, hkr0⟩ : ∃ kr, kr = (Go.Proofs.Yteepnimmbofmlaa.hdr hs8' 0).2.2 := ⟨_, rfl⟩
      rw [← hAr0, ← hkr0] at hc0
      clear hcT hr0 hrl hAr0 hkr0 x0 x1 x2 y0 y1 y2 hTr b7 y7 g7 cD hqq hb8
      go_wp2_with fail
      clear hc0
      go_loopw [8, 58] (fun a iv wr => ∃ j : Nat, j ≤ nS N (K + 1) ∧ iv = .int .i64 j ∧ GrwT w6.heap.size w8 wr a j (tabR j (nS N K) (fun i t => dmF N K p d t i))) (fun _ iv _ => nS N (K + 1) - (intOf iv).toNat)
      case atStart => exact ⟨0, by omega, rfl, hG⟩
      case round =>
        clear hG
        obtain ⟨j, hj, rfl, hG⟩ := hrel
        have hsz := hG.size
        by_cases hlj : j < nS N (K + 1)
        · have hTo := (hT8.chgHi hG.chg (Nat.le_refl _) (Nat.le_refl _)).rd
          obtain ⟨wo, rfl⟩ : ∃ wo : World, wo = wr := ⟨_, rfl⟩
          go_wp2_with fail
          go_loopw [11, 64] (fun a iv wi => ∃ m : Nat, m ≤ nS N K ∧ iv = .int .i64 m ∧ Grw wo.heap.size (wo.alloc (.cells #[] 3)) wi a m (cqL N K p d j m)) (fun _ iv _ => nS N K - (intOf iv).toNat)
          case atStart => exact ⟨0, by omega, rfl, Grw.start wo 3 rfl⟩
          case round =>
            obtain ⟨m, hm, rfl, hGi⟩ := hrel
            have hszi := hGi.size
            rw [World.size_alloc] at hszi
            have hbi : Below wo.heap.size wo wr := ((Below.refl _ _).alloc (Nat.le_refl _) _).trans hGi.below
            by_cases hlt3 : m < nS N K
            · have hTi := hTo.below hbi (by omega)
              obtain ⟨bT', oT', e, hbT', hcT⟩ := hTi.tbl (by omega)
              obtain ⟨rfl, rfl⟩ : bT = bT' ∧ oT = oT' := by injection e with e; injection e with e1 e2; exact ⟨e1, e2⟩
              have hci := hcT m hlt3
              unfold slv at hci
              obtain ⟨hr, hdd⟩ := hTi.rows m hlt3
              have hrl : (Go.Proofs.Yteepnimmbofmlaa.hdr hs8' m).2.1 = nS N (K + 1) := by rw [← hr.1]; exact (HGF.out m hlt3).1
              rw [hrl] at hr hdd hci
              obtain ⟨Ar, hAr⟩ : ∃ Ar, Ar = (Go.Proofs.Yteepnimmbofmlaa.hdr hs8' m).1 := ⟨_, rfl⟩
              obtain ⟨kr, hkr⟩ : ∃ kr, kr = (Go.Proofs.Yteepnimmbofmlaa.hdr hs8' m).2.2 := ⟨_, rfl⟩
              rw [← hAr, ← hkr] at hci
              rw [← hAr] at hr
              obtain ⟨bb, ob, rfl⟩ := hr.addr (by omega)
              have ei := hr.at_ (j := j) hlj
              rw [(HGF.out m hlt3).2 j hlj] at ei
              have HS := Lib.hid (cqL_succ N K p d j m)
              generalize dmF N K p d m j = x at *
              have hT2 := hGi.own.alloc (.cells #[.int .i64 x] 3)
              have hRO := RdI.one wr x 3
              have hcn : m + 1 ≤ 1073741824 := by omega
              clear hcT hAr hkr hr hTi e
              go_wp2_with (at_builtin; refine wpList_apI (v := u11) (w := wr.alloc (.cells #[.int .i64 x] 3)) (lo := wo.heap.size) (n := m) (xs := cqL N K p d j m) (ys := [x]) (m := 1) rfl (.tmp 68) (.tmp 73) rfl rfl hT2 rfl hRO (Hd.self (by unfold maxLen; omega)) hcn (by simp; omega) ?_; intro v2 w9 ho2 hg2 hv2)
              have HT := Lib.hid (hGi.push ho2 hg2 hv2)
              clear hGi hT2 hRO ho2 hg2 hv2 ei hci hbi
              go_wp2
              go_roundw
              case rel => exact ⟨m + 1, by omega, by go_num, by rw [HS.out]; exact HT.out⟩
              case measure => simp [intOf]; omega
            · obtain rfl : m = nS N K := by omega
              obtain ⟨Ae, ce, rfl, hde, hoe⟩ := hGi.ret (by omega)
              obtain ⟨hs9, hl9, how9, hi9, hOT9, hhi9⟩ := hG.tbl
              have hOT10 := hOT9.below hbi hhi9
              have HS := Lib.hid (show tabR (j + 1) (nS N K) (fun i t => dmF N K p d t i) = tabR j (nS N K) (fun i t => dmF N K p d t i) ++ [cqL N K p d j (nS N K)] from tabR_succ j _ _)
              have hcn : j ≤ 1073741824 := by omega
              go_wp2_with (at_builtin; refine wpList_apT (v := u8) (w := wr.alloc (.cells #[.slice Ae (nS N K) ce] 22)) (lo := w6.heap.size) (b := wr.heap.size) (u := .slice Ae (nS N K) ce) rfl (.tmp 76) (.tmp 78) rfl rfl (hOT10.alloc (by omega) _).tbl rfl (Box.new wr _ _).one rfl hcn (by rw [World.size_alloc]; omega) ?_; intro v5 w9 ho5 hg5 hv5)
              have HT := Lib.hid (hG.push hOT9 hhi9 hbi hoe (Nat.le_refl _) hde ho5 hg5 hv5)
              clear ho5 hg5 hv5 hOT9 hOT10 hoe hGi how9 hbi hG
              go_wp2
              go_roundw
              case rel => exact ⟨j + 1, by omega, by go_num, by rw [HS.out]; exact HT.out⟩
              case measure => simp [intOf]; omega
        · obtain rfl : j = nS N (K + 1) := by omega
          obtain ⟨A9, c9, rfl, hd9, hst9, hT9⟩ := hG.ret
          have hz := b8.chg hG.chg (.inl (by omega))
          have hb6r : Below w6.heap.size w6 wr := hq8.trans hG.below
          obtain ⟨x0, x1, x2⟩ := hz.three
          clear hG
          go_wp2_with fail
          refine (kernel_any (B := wr.heap.size) A9 (nS N (K + 1)) c9 (nS N K) p (fun i t => dmF N K p d t i) hst9 _ _ hT9.rd HFF.out (Nat.le_refl _) (by omega) (by omega) HP.out HFR.out).mono ?_
          rw [show tabR (kerS (nS N (K + 1)) (nS N K) p fun i t => dmF N K p d t i).rk (nS N K) (kerS (nS N (K + 1)) (nS N K) p fun i t => dmF N K p d t i).f = tabR (clR N K p d) (nS N K) (clF N K p d) by rw [HCI.out.1, HCI.out.2]; rfl]
          rintro e w10 ⟨A10, n10, k10, rfl, hd10, hb10, hs10', hT10⟩
          obtain rfl : clR N K p d = n10 := by have := hT10.len; rw [tabR_len] at this; exact this
          have hs10 := hb10.size
          clear x0 x1 x2
          go_wp2
          go_meet
          exact ⟨A10, k10, hs10', rfl, hd10, hT10.down (by omega), hb6r.trans (hb10.mono (by omega))⟩
    · have hlt : decide (KI < (N : Int)) = false := by have := HKI.out; simp; omega
      have hlt2 : ¬ KI < (N : Int) := by have := HKI.out; omega
      have HCT := Lib.hid (cl_top (p := p) d hKN)
      have hT7 := OwT.congrR hT6 (show rowsD (nS N K) (unitD (nS N K) (nS N K)) (nS N K) = tabR (nS N K) (nS N K) (clF N K p d) by
        rw [← HCT.out.2]
        refine ext_row (by rw [rowsD_len, tabR_len]) fun i hi => ?_
        rw [rowsD_len] at hi
        rw [rowsD_row hi]
        have h1 : i < clR N K p d := by rw [HCT.out.1]; exact hi
        rw [clV_sub h1, tabR_row hi]; rfl)
      go_wp2
      go_meet
      exact ⟨A6, k6, hs6', by rw [HCT.out.1], by rw [HCT.out.1]; exact hd6, by rw [HCT.out.1]; exact hT7, Below.refl _ _⟩
  case rest =>
    clear x0 x1 x2
    obtain ⟨wd, rfl⟩ : ∃ x, x = wc := ⟨wc, rfl⟩
    obtain ⟨Ac, kc, hsC, rfl, hdc, hTC, hb67⟩ := hcut
    have hsd := hb67.size
    have b7 := (b6.below hb67 (by omega)).alloc (.cells #[] 22)
    have y7 := (y6.below hb67 (by omega)).alloc (.cells #[] 22)
    have g7 := (g6.below hb67 (by omega)).alloc (by omega) (.cells #[] 22)
    have hq7 := (hq6.trans (hb67.mono (by omega))).alloc (by omega) (.cells #[] 22)
    have hTC7 := hTC.alloc (Nat.le_refl _) (.cells #[] 22)
    have hT0 := OwT.made wd
    clear b6 y6 g6 hq6 hb67
    obtain ⟨x0, x1, x2⟩ := b7.three
    obtain ⟨y0, y1, y2⟩ := y7.three
    go_upto_if 88 with fail
    obtain ⟨W7, hW7⟩ : ∃ W, W = wd.alloc (.cells #[] 22) := ⟨_, rfl⟩
    have hW7s : wd.heap.size + 1 ≤ W7.heap.size ∧ W7.heap.size ≤ wd.heap.size + 1 := by rw [hW7]; simp
    obtain ⟨c0, hc0⟩ : ∃ g, g = wd.heap.size := ⟨_, rfl⟩
    rw [← hW7] at b7 y7 g7 hq7 hTC7 hT0 x0 x1 x2 y0 y1 y2 ⊢
    rw [← hc0] at hTC7 hT0 hW7s hsd ⊢
    clear hW7 hc0 hTC
    go_cut [14] (fun s14 wx => ∃ (hi : Nat) (hsK : List Hdr), OwT wx c0 hi s14 (knS N p d K).1 hsK (knT (nS N K) (knS N p d K)) ∧ hi ≤ wx.heap.size ∧ Below c0 W7 wx)
    case first =>
      rcases K with _ | K
      · have hk2 : decide ((0 : Int) < KI) = false := by have := HKI.out; simp; omega
        have hk3 : ¬ (0 : Int) < KI := by have := HKI.out; omega
        go_wp2
        go_meet
        exact ⟨c0 + 1, [], hT0, by omega, Below.refl _ _⟩
      · have hk1 : IntKind.i64.wrap (KI - 1) = (K : Int) := by
          rw [show KI - 1 = (K : Int) by have := HKI.out; omega]; exact IntWalk.i64_in _ (by omega)
        have hk2 : decide ((0 : Int) < KI) = true := by have := HKI.out; simp; omega
        have hk3 : (0 : Int) < KI := by have := HKI.out; omega
        have hC35 := nS_le hN (show K ≤ 8 by omega)
        have HFF := Lib.hid (tabR_FF (nS N K) (nS N (K + 1)) (dmF N K p d))
        have HFR := Lib.hid (show ResF (dmF N K p d) p from dmF_res (by omega) d)
        go_wp2_with fail
        clear x0 x1 x2 y0 y1 y2
        go_region_held3 (fun w' => w'.cell? ⟨w.heap.size, 0, none⟩ = some (.int .i64 p) ∧ w'.cell? ⟨gl, 0, none⟩ = some (.int .i64 p) ∧ w'.cell? ⟨gl, 1, none⟩ = some (.int .i64 N) ∧ w'.cell? ⟨gl, 2, none⟩ = some (.slice A n k)) (exact ⟨b7.cell rfl, y7.three⟩)
          (first
            | (go_at_call 46; refine (differentials_any (B := B) p N K n k A d _ (by exact g7) hd (by first | omega | (rw [size_drew]; omega)) hN hK HL.out hp1 hp2 HR.out).mono ?_; rintro e wa ⟨Aa, na, ka, rfl, hda, hba, hsa', hTa⟩; obtain rfl : nS N K = na := (by have := hTa.len; rw [tabR_len] at this; exact this); have hba := (by first | with_reducible exact bel_ofDrew hba | exact hba : Below W7.heap.size W7 wa); have hsa := hba.size; have b7 : Box wa w.heap.size _ := b7.step hba; have y7 : Box wa gl _ := y7.step hba)
            | (go_at_call 48; refine (span_any (B := wa.heap.size) Aa (nS N K) ka (nS N (K + 1)) p (dmF N K p d) hsa' _ _ (by exact hTa.rd) HFF.out (Nat.le_refl _) (by omega) (by omega) HP.out HFR.out).mono ?_; rintro e wb ⟨Ab, nb, kb, rfl, hdb, hbb, hsb', hTb⟩; have hsb := hbb.size; have b7 : Box wb w.heap.size _ := b7.step hbb; have y7 : Box wb gl _ := y7.step hbb))
        obtain rfl : (rr (nS N K) p (dmF N K p d) (nS N (K + 1))).rk = nb := by have := hTb.len; rw [tabR_len] at this; exact this
        have hTB := OwT.congrR hTb (knT_rr _ _ _ _)
        have HT := Lib.hid (hTB.down (lo' := c0) (by omega))
        have hbW : Below c0 W7 wb := (hba.mono (by omega)).trans (hbb.mono (by omega))
        clear hTB hTb hTa hba hbb b7 y7
        go_wp2
        go_meet
        exact ⟨wb.heap.size, hsb', HT.out, Nat.le_refl _, hbW⟩
    case rest =>
      clear x0 x1 x2 y0 y1 y2
      obtain ⟨hi0, hsK0, hTK0, hhi0, hb7⟩ := hcut
      have hs7 := hb7.size
      have hcR := clR_le (N := N) (K := K) p d
      go_wp2_with fail
      have hO0 : (wc.alloc (.cells #[] 22)).ownsRow c0 22 1 (.slice (some ⟨wc.heap.size, 0, none⟩) 0 0) 0 (((chI N K p d 0).map (hdr hsC)).map slv) := World.ownsRow_lit (base := c0) (e := 22) (size := 1) wc #[] 0 (by omega) (by unfold maxLen; omega) rfl
      have hTK8 := hTK0.alloc hhi0 (.cells #[] 22)
      have hb8 := hb7.alloc (by omega) (.cells #[] 22)
      go_loopw [14, 15, 100] (fun v14 v15 iv wr => ∃ (i m lo hi : Nat) (hsK : List Hdr), i ≤ clR N K p d ∧ iv = .int .i64 i ∧ OwT wr lo hi v14 (chK N K p d i).1 hsK (knT (nS N K) (chK N K p d i)) ∧ c0 ≤ lo ∧ lo ≤ wr.heap.size ∧ hi ≤ wr.heap.size ∧ wr.ownsRow c0 22 1 v15 m (((chI N K p d i).map (hdr hsC)).map slv) ∧ Below c0 W7 wr ∧ ∀ g, v15.ownBlock = some g → g < lo ∨ hi ≤ g) (fun _ _ iv _ => clR N K p d - (intOf iv).toNat)
      case atStart => exact ⟨0, 0, c0, hi0, hsK0, Nat.zero_le _, rfl, hTK8, Nat.le_refl _, by simp; omega, by simp; omega, hO0, hb8, fun g e => by injection e with e; have e3 : wc.heap.size = g := e; omega⟩
      case round =>
        clear hO0 hTK8 hb8
        obtain ⟨i, m, lo, hi, hsK, hile, rfl, hT, hlo0, hlo1, hhi, hO, hbl, hsep⟩ := hrel
        have hsz := hbl.size
        have hx := b7.below hbl (by omega)
        have hTCr := hTC7.below hbl (Nat.le_refl _)
        have hqr := hq7.trans (hbl.mono (by omega))
        by_cases hlt : i < clR N K p d
        · obtain ⟨Ak, ck, rfl, hdk⟩ := hT.hd
          obtain ⟨bC, oC, rfl, hbC, hcC⟩ := hTCr.rd.tbl (by omega)
          have hci := hcC i hlt
          unfold slv at hci
          obtain ⟨hri, hdi⟩ := hTCr.rd.rows i hlt
          rw [clV_row hlt] at hri
          have hrl : (Go.Proofs.Yteepnimmbofmlaa.hdr hsC i).2.1 = nS N K := by rw [← hri.1]; exact clV_len N K p d i
          rw [hrl] at hri hdi hci
          obtain ⟨Ai, hAi⟩ : ∃ Ai, Ai = (Go.Proofs.Yteepnimmbofmlaa.hdr hsC i).1 := ⟨_, rfl⟩
          obtain ⟨ki, hki⟩ : ∃ ki, ki = (Go.Proofs.Yteepnimmbofmlaa.hdr hsC i).2.2 := ⟨_, rfl⟩
          have HHD := Lib.hid (show Go.Proofs.Yteepnimmbofmlaa.hdr hsC i = (Ai, nS N K, ki) from Prod.ext hAi.symm (Prod.ext hrl hki.symm))
          rw [← hAi, ← hki] at hci
          rw [← hAi] at hri
          rw [← hAi, ← hki] at hdi
          have hKs := chK_spn (N := N) (K := K) HP.out d i
          have hk35 : (chK N K p d i).1 ≤ 35 := by have := hKs.2.2.1; omega
          have HFF := Lib.hid (knT_FF (v := clV N K p d i) hKs.1 (clV_len N K p d i))
          have HFR := Lib.hid (show ResF (matF ((chK N K p d i).2 ++ clV N K p d i) (nS N K)) p from matF_res (by omega) (resB_app' hKs.2.1 (clV_res hp1 d i)))
          have HTN := Lib.hid (show tabR (rr ((chK N K p d i).1 + 1) p (matF ((chK N K p d i).2 ++ clV N K p d i) (nS N K)) (nS N K)).rk (nS N K) (rr ((chK N K p d i).1 + 1) p (matF ((chK N K p d i).2 ++ clV N K p d i) (nS N K)) (nS N K)).f = knT (nS N K) (chK N K p d (i + 1)) from knT_rr _ _ _ _)
          have hTd : OwT wr.drew lo hi _ _ _ _ := hT.keep fun _ _ _ _ => rfl
          have hrid : RdI wr.drew c0 Ai (nS N K) (clV N K p d i) := hri
          have hcn : (chK N K p d i).1 ≤ 1073741824 := by omega
          have hlod : lo ≤ wr.drew.heap.size := hlo1
          have hhid : hi ≤ wr.drew.heap.size := hhi
          clear hcC hAi hki hrl hKs hri
          go_wp2_with fail
          go_region_held3 (fun w' => w'.cell? ⟨w.heap.size, 0, none⟩ = some (.int .i64 p)) (first | exact hx.cell rfl | exact (hx.alloc _).cell rfl)
            (first
              | (refine step_apT (v := .slice Ak (chK N K p d i).1 ck) (w := wr.drew.alloc (.cells #[.slice Ai (nS N K) ki] 22)) (lo := lo) (n := (chK N K p d i).1) (hs := hsK.map slv) (b := wr.drew.heap.size) (u := .slice Ai (nS N K) ki) rfl (.tmp 104) (.tmp 106) rfl rfl (hTd.alloc hhid _).tbl rfl (Box.new wr.drew _ _).one rfl hcn (by rw [World.size_alloc]; omega) ?_; intro v5 w7 ho7 hg7 hv7; obtain ⟨A7, c7, rfl, hd7', hR7⟩ := RdT.plus hTd hhid hrid hdi hlo0 hlod ho7 hg7 (by unfold maxLen; omega); have hgs7 := hg7.size; have hx : Box w7 w.heap.size _ := ((hx.drew).alloc _).keep (hg7.block _ ((hx.drew).alloc _).lt (fun e => by have := (hTd.tbl.lt _ e.symm).1; omega)))
              | (go_at_call 48; refine (span_any (B := w7.heap.size) A7 ((chK N K p d i).1 + 1) c7 (nS N K) p _ _ _ _ (by exact hR7) HFF.out (Nat.le_refl _) (by omega) (by omega) HP.out HFR.out).mono ?_; rw [HTN.out]; rintro e w8 ⟨An, nn, kn, rfl, hdn, hb8, hsn, hTn⟩; have hs8 := hb8.size; have hx : Box w8 w.heap.size _ := hx.step hb8))
          obtain rfl : (chK N K p d (i + 1)).1 = nn := by have := hTn.len; rw [knT_len] at this; exact this
          have hgs7 := hg7.size
          rw [World.size_alloc] at hgs7
          have hgs7 : wr.heap.size + 1 ≤ w7.heap.size := hgs7
          have hu14 : ∀ b, (Value.slice Ak (chK N K p d i).1 ck).ownBlock = some b → lo ≤ b ∧ b < hi := fun b e => ⟨(hTd.tbl.lt b e).1, hTd.blk b e⟩
          have hk8 : ∀ b, b < wr.heap.size → (Value.slice Ak (chK N K p d i).1 ck).ownBlock ≠ some b → w8.heap[b]? = wr.heap[b]? := fun b hb hne =>
            (hb8.block b (by omega)).trans ((hg7.block b (by rw [World.size_alloc]; show b < wr.heap.size + 1; omega) (fun e => hne e.symm)).trans (Below.heap_alloc wr.drew _ b hb))
          have hb78 : Below c0 wr w8 := by
            have h1 : Below c0 wr (wr.drew.alloc (.cells #[.slice Ai (nS N K) ki] 22)) := (below_drew' (Below.refl c0 wr) 1).alloc (by show c0 ≤ wr.heap.size; omega) _
            exact (h1.grown hg7 (by rw [World.size_alloc]; show c0 ≤ wr.heap.size + 1; omega) (fun q e => by have := (hu14 q e).1; omega)).trans (hb8.mono (by omega))
          have hO8 := ownsRow_at hO fun b e hb => hk8 b hb fun e2 => by
            have := hu14 b e2
            have := hsep b e
            omega
          have huw : ∀ b, u15.ownBlock = some b → b < wr.heap.size := fun b e => (hO.lt b e).2
          have hbl8 := hbl.trans hb78
          have hml : m = (chI N K p d i).length := by have := hO.1; simpa using this.symm
          have hmi : (chI N K p d i).length ≤ i := coI_len _ _ _ _ i
          have hcm : m ≤ 1073741824 := by omega
          clear hT hTd hO ho7 hg7 hv7 hR7 hx hb8 hci hrid hTCr hu14 hk8 hb78 hsep hml hmi
          by_cases hgr : (chK N K p d i).1 < (chK N K p d (i + 1)).1
          · have hgr2 : ((chK N K p d i).1 : Int) < ((chK N K p d (i + 1)).1 : Int) := by omega
            have HIE := Lib.hid (show (((chI N K p d (i + 1)).map (Go.Proofs.Yteepnimmbofmlaa.hdr hsC)).map slv) = ((chI N K p d i).map (Go.Proofs.Yteepnimmbofmlaa.hdr hsC)).map slv ++ [.slice Ai (nS N K) ki] by
              rw [(chL_take hgr).2, List.map_append, List.map_append, List.map_cons, List.map_nil, List.map_cons, List.map_nil, HHD.out]; rfl)
            go_wp2_with (at_builtin; refine wpList_apT (v := u15) (w := w8.alloc (.cells #[.slice Ai (nS N K) ki] 22)) (lo := c0) (n := m) (b := w8.heap.size) (u := .slice Ai (nS N K) ki) rfl (.tmp 117) (.tmp 119) rfl rfl (hO8.alloc _) rfl (Box.new w8 _ _).one rfl hcm (by rw [World.size_alloc]; omega) ?_; intro v2 w9 ho2 hg2 hv2)
            have hgs2 := hg2.size
            rw [World.size_alloc] at hgs2
            have HT := Lib.hid (show OwT w9 w7.heap.size w8.heap.size _ _ hsn (knT (nS N K) (chK N K p d (i + 1))) from hTn.keep fun b hl hh hs => (hg2.block b (by rw [World.size_alloc]; omega) (fun e => by have := huw b e.symm; omega)).trans (Below.heap_alloc w8 _ b hh))
            rw [← HIE.out] at ho2
            have HO := Lib.hid ho2
            have HB := Lib.hid (show Below c0 W7 w9 from (hbl8.alloc (by omega) _).grown hg2 (by rw [World.size_alloc]; omega) (fun q e => (hO8.lt q e).1))
            have HV := Lib.hid (show ∀ g, v2.ownBlock = some g → g < w7.heap.size ∨ w8.heap.size ≤ g from fun g e => by
              rcases hv2 with h2 | h2
              · rw [h2] at e; have := huw g e; omega
              · rw [h2, World.size_alloc] at e; injection e with e; omega)
            clear hTn ho2 hg2 hv2 hO8 hbl8
            go_wp2
            go_roundw
            case rel => exact ⟨i + 1, m + 1, w7.heap.size, w8.heap.size, hsn, by omega, by go_num, HT.out, by omega, by omega, by omega, HO.out, HB.out, HV.out⟩
            case measure => simp [intOf]; omega
          · have hgr2 : ¬ ((chK N K p d i).1 : Int) < ((chK N K p d (i + 1)).1 : Int) := by omega
            have HIE := Lib.hid (chL_skip hgr).2
            have HT := Lib.hid hTn
            have HO := Lib.hid hO8
            clear hTn hO8
            go_wp2
            go_roundw
            case rel => exact ⟨i + 1, m, w7.heap.size, w8.heap.size, hsn, by omega, by go_num, HT.out, by omega, by omega, Nat.le_refl _, by rw [HIE.out]; exact HO.out, hbl8, fun g e => by have := huw g e; omega⟩
            case measure => simp [intOf]; omega
        · obtain rfl : i = clR N K p d := by omega
          obtain ⟨Ae, ce, rfl, hde⟩ := own_hd hO
          have hP := hTCr.pick (I := chI N K p d (clR N K p d)) (f := clV N K p d) (lo2 := w.heap.size) (fun x hx => coI_lt _ _ _ _ _ x hx) (coI_sort _ _ _ _ _) (fun j hj => clV_row hj) hO (by omega) (by omega) (by omega)
          go_wp2
          go_ret
          exact ⟨Ae, m, ce, rfl, hde, hqr, _, hP⟩
end Go.Proofs.Yteepnimmbofmlaa
