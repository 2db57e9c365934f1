/- Words for the walks of the laws: own memory kept across marks; contracts of the helpers on slices in one form. No condition but what each theorem names. -/
import Derived.Test.YtnkcjekfjlbcdaaGreatDoorAlgW
import Derived.Test.YtnkcjekfjlbcdaaGreatDoorMem
import Derived.Deep.RegionHeld3
import Derived.StillTail
import Derived.Deep.Quiet
import Derived.Lib.QuietBelow
import Derived.BigQuiet
namespace Go.Proofs.YtnkcjekfjlbcdaaGreatDoor
set_option linter.unusedVariables false
set_option linter.unusedSimpArgs false
set_option maxRecDepth 20000
open Go.RowKit
theorem OwI.chgHi {w w' : World} {B B0 b0 b1 n : Nat} {A : Option Addr} {xs : List Int} (h : OwI w b0 b1 A n xs) (hc : Chg B0 B w w') (h0 : B ≤ b0) (h1 : b1 ≤ w.heap.size) : OwI w' b0 b1 A n xs :=
  ⟨h.1, h.2.1, fun hn => by
    obtain ⟨b, o, e, ha, hb, hx⟩ := h.2.2 hn
    exact ⟨b, o, e, ha, hb, fun j hj => ⟨(hc.cell b _ (.inr (by omega)) (by omega)).trans (hx j hj).1, (hc.frozen b _ (.inr (by omega)) (by omega)).trans (hx j hj).2⟩⟩⟩
theorem eqIntS_rv {B1 B2 : Nat} (A1 A2 : Option Addr) (n1 c1 n2 c2 : Nat) (xs ys : List Int) (w : World) (h1 : RdI w B1 A1 n1 xs) (h2 : RdI w B2 A2 n2 ys) :
    Calls Tryz.prog 22 #[.slice A1 n1 c1, .slice A2 n2 c2] w (Rv (.bool (xs == ys)) w) := (eqIntS_any A1 A2 n1 c1 n2 c2 xs ys w h1 h2).mono fun _ _ h => h.rv
theorem heldIntS_rv {B : Nat} (A : Option Addr) (n c : Nat) (k : Int) (w : World) (h : RdI w B A n (mkI k n)) (hk0 : 0 ≤ k) (hk1 : k + n ≤ 1000000000000) :
    Calls Tryz.prog 24 #[.slice A n c, .int .i64 k] w (Rv (.int .i64 (k + n)) w) := (heldIntS_any A n c k w h hk0 hk1).mono fun _ _ h => ⟨h.1, by rw [← h.2]; exact Below.refl _ _⟩
/-! ### steps within a region that draws its order and holds calls -/
section
variable {W w w' : World} {N n : Nat} {A : Option Addr} {d : List Int}
theorem Below.step (h : Below W.heap.size W w) (hb : Below w.heap.size w w') : Below W.heap.size W w' := Below.trans h (hb.mono h.size)
theorem Below.stepA {o : Obj} (h : Below W.heap.size W w) (hb : Below (w.alloc o).heap.size (w.alloc o) w') : Below W.heap.size W w' :=
  Below.trans (Below.alloc h h.size o) (hb.mono (by have := h.size; simp; omega))
theorem Below.stepD (h : Below W.heap.size W w) (hb : Below w.drew.heap.size w.drew w') : Below W.heap.size W w' := Below.trans (Below.drew h) (hb.mono h.size)
theorem Below.stepAD {o : Obj} (h : Below W.heap.size W w) (hb : Below (w.alloc o).drew.heap.size (w.alloc o).drew w') : Below W.heap.size W w' :=
  Below.trans (Below.drew (Below.alloc h h.size o)) (hb.mono (by have := h.size; rw [size_drew]; simp; omega))
theorem Box.newAD {vs : Array Value} {T : TypeId} (hb : Below (w.alloc (.cells vs T)).drew.heap.size (w.alloc (.cells vs T)).drew w') : Box w' w.heap.size vs := ((Box.new w vs T).drew).below hb (by rw [size_drew]; simp)
theorem Below.alo {o : Obj} (h : Below W.heap.size W w) : Below W.heap.size W (w.alloc o) := Below.alloc h h.size o
theorem RdI.step (h : RdI w w.heap.size A n d) (hb : Below w.heap.size w w') : RdI w' w'.heap.size A n d := (h.below hb (Nat.le_refl _)).up hb.size
theorem RdI.alo {o : Obj} (h : RdI w w.heap.size A n d) : RdI (w.alloc o) (w.alloc o).heap.size A n d := (h.alloc (Nat.le_refl _) o).up (by simp)
theorem RdI.stepA {o : Obj} (h : RdI w w.heap.size A n d) (hb : Below (w.alloc o).heap.size (w.alloc o) w') : RdI w' w'.heap.size A n d := RdI.step (RdI.alo h) hb
theorem Box.step {b : Nat} {vs : Array Value} (h : Box w b vs) (hb : Below w.heap.size w w') : Box w' b vs := h.below hb h.lt
theorem Box.newA {vs : Array Value} {T : TypeId} (hb : Below (w.alloc (.cells vs T)).heap.size (w.alloc (.cells vs T)) w') : Box w' w.heap.size vs := (Box.new w vs T).below hb (by simp)
/-- what a statement 'r := F(..)' with a matrix leaves, in whichever order: the matrix's box g, its data -/
def CutM (W : World) (p r c : Int) (d : List Int) (s : Value) (wx : World) : Prop :=
  ∃ (g : Nat) (A : Option Addr) (n k lo hi : Nat), s = .pointer (some ⟨g, 0, none⟩) ∧ Hd A n k ∧ Box wx g #[.int .i64 p, .int .i64 r, .int .i64 c, .slice A n k] ∧ OwI wx lo hi A n d ∧ (g < lo ∨ hi ≤ g) ∧ W.heap.size ≤ lo ∧ hi ≤ wx.heap.size ∧ W.heap.size ≤ g ∧ g < wx.heap.size ∧ Below W.heap.size W wx
theorem CutM.a {p r c : Int} {k lo : Nat} (h : Below W.heap.size W w) (hq : OwI w lo w.heap.size A n d) (hd : Hd A n k) (hlo : W.heap.size ≤ lo) (T : TypeId) :
    CutM W p r c d (.pointer (some ⟨w.heap.size, 0, none⟩)) (w.alloc (.cells #[.int .i64 p, .int .i64 r, .int .i64 c, .slice A n k] T)) :=
  ⟨_, _, _, _, _, _, rfl, hd, Box.new _ _ _, hq.alloc (Nat.le_refl _) _, .inr (Nat.le_refl _), hlo, by simp, h.size, by simp, Below.alo h⟩
theorem CutM.b {p r c : Int} {k lo g : Nat} {u0 u1 u2 u3 : Value} (h : Below W.heap.size W w) (hx : Box w g #[u0, u1, u2, u3]) (hq : OwI w lo w.heap.size A n d) (hd : Hd A n k) (hlo : W.heap.size ≤ lo) (hg : W.heap.size ≤ g) (hg2 : g < lo) :
    CutM W p r c d (.pointer (some ⟨g, 0, none⟩)) ((((w.setCell ⟨g, 0, none⟩ (.int .i64 p)).setCell ⟨g, 1, none⟩ (.int .i64 r)).setCell ⟨g, 2, none⟩ (.int .i64 c)).setCell ⟨g, 3, none⟩ (.slice A n k)) :=
  ⟨_, _, _, _, _, _, rfl, hd, hx.set4 _ _ _ _, (((hq.setLow hg2 _).setLow hg2 _).setLow hg2 _).setLow hg2 _, .inl hg2, hlo, by simp, hg, by simpa using hx.lt, (((h.setCell hg _).setCell hg _).setCell hg _).setCell hg _⟩
/-- the same with an algebra -/
def CutA (W : World) (p q : Int) (d : List Int) (s : Value) (wx : World) : Prop :=
  ∃ (g : Nat) (A : Option Addr) (n k lo hi : Nat), s = .pointer (some ⟨g, 0, none⟩) ∧ Hd A n k ∧ Box wx g #[.int .i64 p, .int .i64 q, .slice A n k] ∧ OwI wx lo hi A n d ∧ (g < lo ∨ hi ≤ g) ∧ W.heap.size ≤ lo ∧ hi ≤ wx.heap.size ∧ W.heap.size ≤ g ∧ g < wx.heap.size ∧ Below W.heap.size W wx
theorem CutA.a {p q : Int} {k lo : Nat} (h : Below W.heap.size W w) (hq : OwI w lo w.heap.size A n d) (hd : Hd A n k) (hlo : W.heap.size ≤ lo) (T : TypeId) :
    CutA W p q d (.pointer (some ⟨w.heap.size, 0, none⟩)) (w.alloc (.cells #[.int .i64 p, .int .i64 q, .slice A n k] T)) :=
  ⟨_, _, _, _, _, _, rfl, hd, Box.new _ _ _, hq.alloc (Nat.le_refl _) _, .inr (Nat.le_refl _), hlo, by simp, h.size, by simp, Below.alo h⟩
theorem CutA.b {p q : Int} {k lo g : Nat} {u0 u1 u2 : Value} (h : Below W.heap.size W w) (hx : Box w g #[u0, u1, u2]) (hq : OwI w lo w.heap.size A n d) (hd : Hd A n k) (hlo : W.heap.size ≤ lo) (hg : W.heap.size ≤ g) (hg2 : g < lo) :
    CutA W p q d (.pointer (some ⟨g, 0, none⟩)) (((w.setCell ⟨g, 0, none⟩ (.int .i64 p)).setCell ⟨g, 1, none⟩ (.int .i64 q)).setCell ⟨g, 2, none⟩ (.slice A n k)) :=
  ⟨_, _, _, _, _, _, rfl, hd, hx.set3 _ _ _, ((hq.setLow hg2 _).setLow hg2 _).setLow hg2 _, .inl hg2, hlo, by simp, hg, by simpa using hx.lt, ((h.setCell hg _).setCell hg _).setCell hg _⟩
/-- the same with a slice -/
def CutI (W : World) (d : List Int) (s : Value) (wx : World) : Prop :=
  ∃ (A : Option Addr) (n k lo hi : Nat), s = .slice A n k ∧ Hd A n k ∧ OwI wx lo hi A n d ∧ W.heap.size ≤ lo ∧ hi ≤ wx.heap.size ∧ Below W.heap.size W wx
theorem CutI.a {k lo : Nat} (h : Below W.heap.size W w) (hq : OwI w lo w.heap.size A n d) (hd : Hd A n k) (hlo : W.heap.size ≤ lo) : CutI W d (.slice A n k) w :=
  ⟨_, _, _, _, _, rfl, hd, hq, hlo, Nat.le_refl _, h⟩
end
/-- a call that hands back a new matrix and a bool -/
def RetMB (p r c : Int) (d : List Int) (b : Bool) (w : World) (e : Ending) (w' : World) : Prop :=
  ∃ A n cap, e = .returned (.tuple #[.agg #[.int .i64 p, .int .i64 r, .int .i64 c, .slice A n cap], .bool b]) ∧ Hd A n cap ∧ Below w.heap.size w w' ∧ OwI w' w.heap.size w'.heap.size A n d
/-- .. a new algebra and a bool -/
def RetAB (p n : Int) (d : List Int) (b : Bool) (w : World) (e : Ending) (w' : World) : Prop :=
  ∃ A l cap, e = .returned (.tuple #[.agg #[.int .i64 p, .int .i64 n, .slice A l cap], .bool b]) ∧ Hd A l cap ∧ Below w.heap.size w w' ∧ OwI w' w.heap.size w'.heap.size A l d
/-- .. a new slice and a bool -/
def RetIB (xs : List Int) (b : Bool) (w : World) (e : Ending) (w' : World) : Prop :=
  ∃ A n c, e = .returned (.tuple #[.slice A n c, .bool b]) ∧ Hd A n c ∧ Below w.heap.size w w' ∧ OwI w' w.heap.size w'.heap.size A n xs
end Go.Proofs.YtnkcjekfjlbcdaaGreatDoor
namespace Go.Proofs.YtnkcjekfjlbcdaaGreatDoor
set_option linter.unusedVariables false
set_option linter.unusedSimpArgs false
set_option maxRecDepth 20000
open Go.RowKit
/-- a row of n zeros -/
def zrow (n : Nat) : Array Value := madeCells #[.int .i64 0] n
theorem mkI_run (L : Int) (n : Nat) (hL : L = n) (hn : n ≤ 1073741824) : ∀ w : World, Sem.run Tryz.prog (Instr.makeSlice 22 (.int .i64 L) (.int .i64 L)) w = .ok (.slice (some ⟨w.heap.size, 0, none⟩) n n) (w.alloc (.cells (zrow n) 3)) := by
  intro w
  subst hL
  obtain ⟨i, h2, h3, h4, h5⟩ := info_parts Tryz.infoI
  have := run_make w 22 3 i (.int .i64 0) Tryz.underlying22 h2 h3 .i64 .i64 (n : Int) n (by omega) (Int.le_refl _) (by rw [h5]; omega) (by omega)
  simp only [Int.toNat_natCast, h4, Nat.mul_one] at this
  exact this
theorem OwI.zrow (w : World) (n : Nat) (T : TypeId) (hn : n ≤ 1073741824) : OwI (w.alloc (.cells (zrow n) T)) w.heap.size (w.heap.size + 1) (some ⟨w.heap.size, 0, none⟩) n (List.replicate n 0) := by
  have hb : Box (w.alloc (.cells (Go.Proofs.YtnkcjekfjlbcdaaGreatDoor.zrow n) T)) w.heap.size (Go.Proofs.YtnkcjekfjlbcdaaGreatDoor.zrow n) := Box.new _ _ _
  refine ⟨by simp, by unfold maxLen; omega, fun _ => ⟨_, _, rfl, Nat.le_refl _, by omega, fun j hj => ⟨?_, hb.fz _⟩⟩⟩
  have e : (Go.Proofs.YtnkcjekfjlbcdaaGreatDoor.zrow n)[j]? = some (.int .i64 0) := by
    rw [← Array.getElem?_toList]
    unfold Go.Proofs.YtnkcjekfjlbcdaaGreatDoor.zrow
    rw [toList_madeCells_one]
    simp [hj]
  have := hb.cell e
  rw [Nat.zero_add, this]
  simp [gI, hj]
/-- what 'Matrix{.., Data: make(..)}' leaves: its box g, its data's block b, in whichever order -/
def MadeM (N : Nat) (p r c : Int) (n : Nat) (W : World) (s : Value) (wx : World) : Prop :=
  ∃ g b, s = .pointer (some ⟨g, 0, none⟩) ∧ Box wx g #[.int .i64 p, .int .i64 r, .int .i64 c, .slice (some ⟨b, 0, none⟩) n n] ∧ OwI wx b (b + 1) (some ⟨b, 0, none⟩) n (List.replicate n 0) ∧ Below N W wx ∧ wx.heap.size = N + 2 ∧ N ≤ g ∧ g < N + 2 ∧ N ≤ b ∧ b < N + 2 ∧ g ≠ b
theorem Below.drew1 (B : Nat) {a w : World} (h : Below B a w) : Below B a w.drew := h.trans ⟨rfl, rfl, rfl, Nat.le_refl _, fun _ _ => rfl⟩
theorem MadeM.one {p r c : Int} {n N : Nat} (hn : n ≤ 1073741824) (W : World) (hN : W.heap.size = N) (T T' : TypeId) :
    MadeM N p r c n W (.pointer (some ⟨N + 1, 0, none⟩)) (((W.alloc (.cells (zrow n) T)).alloc (.cells #[.int .i64 p, .int .i64 r, .int .i64 c, .slice (some ⟨N, 0, none⟩) n n] T')).drew) := by
  subst hN
  have hb := Box.new (W.alloc (.cells (zrow n) T)) #[.int .i64 p, .int .i64 r, .int .i64 c, .slice (some ⟨W.heap.size, 0, none⟩) n n] T'
  rw [World.size_alloc] at hb
  exact ⟨_, _, rfl, hb, (OwI.zrow W n T hn).alloc (by simp) _, Below.drew1 _ (((Below.refl _ _).alloc (Nat.le_refl _) _).alloc (by simp) _), by show (World.alloc _ _).heap.size = _; simp, by omega, by omega, by omega, by omega, by omega⟩
theorem MadeM.two {p r c : Int} {n N : Nat} (hn : n ≤ 1073741824) (W : World) (hN : W.heap.size = N) (T T' : TypeId) :
    MadeM N p r c n W (.pointer (some ⟨N, 0, none⟩)) (((W.alloc (.cells #[.int .i64 p, .int .i64 r, .int .i64 c, .slice (some ⟨N + 1, 0, none⟩) n n] T')).alloc (.cells (zrow n) T)).drew) := by
  subst hN
  have hb := (Box.new W #[.int .i64 p, .int .i64 r, .int .i64 c, .slice (some ⟨W.heap.size + 1, 0, none⟩) n n] T').alloc (.cells (zrow n) T)
  have hz := OwI.zrow (W.alloc (.cells #[.int .i64 p, .int .i64 r, .int .i64 c, .slice (some ⟨W.heap.size + 1, 0, none⟩) n n] T')) n T hn
  rw [World.size_alloc] at hz
  exact ⟨_, _, rfl, hb, hz, Below.drew1 _ (((Below.refl _ _).alloc (Nat.le_refl _) _).alloc (by simp) _), by show (World.alloc _ _).heap.size = _; simp, by omega, by omega, by omega, by omega, by omega⟩
/-- bounds for the row i of a table of R rows, C columns, in the walk's spelling -/
theorem row_bd {i R C : Nat} (h : i < R) : 0 ≤ (i : Int) * C ∧ (i : Int) * C + C = ((i : Int) + 1) * C ∧ ((i : Int) + 1) * C ≤ (R : Int) * C ∧ ((i : Int) * C).toNat = i * C ∧ (((i : Int) + 1) * C).toNat = i * C + C ∧ i * C + C ≤ R * C := by
  have h1 : i * C + C ≤ R * C := by
    calc i * C + C = (i + 1) * C := by rw [Nat.add_mul]; omega
      _ ≤ R * C := Nat.mul_le_mul_right _ (by omega)
  have e1 : (i : Int) * C = ((i * C : Nat) : Int) := by rw [Int.natCast_mul]
  have e2 : ((i : Int) + 1) * C = ((i * C + C : Nat) : Int) := by rw [Int.add_mul, Int.natCast_add, Int.natCast_mul]; omega
  have e3 : (R : Int) * C = ((R * C : Nat) : Int) := by rw [Int.natCast_mul]
  rw [e1, e2, e3]
  refine ⟨by omega, by omega, by omega, by omega, by omega, h1⟩
end Go.Proofs.YtnkcjekfjlbcdaaGreatDoor
namespace Go.Proofs.YtnkcjekfjlbcdaaGreatDoor
set_option linter.unusedVariables false
set_option linter.unusedSimpArgs false
set_option maxRecDepth 20000
open Go.RowKit Go.Sort
section
variable {P : Program} {md : Region.Mode} {C : World → Prop} {Q' : Exit → Act → World → Prop}
/-- every operation waits only for such as stand ahead of it -/
def depsB (md : Region.Mode) (ops : Array Oper) : Bool :=
  (List.range ops.size).all fun i => match ops[i]? with
    | some o => o.after.all fun e => !(Region.binds md e) || decide (e.on < i)
    | none => true
theorem depsB_spec {ops : Array Oper} (h : depsB md ops = true) {i : Nat} {o : Oper} (hi : ops[i]? = some o) : ∀ e ∈ o.after, Region.binds md e = true → e.on < i := by
  have hlt : i < ops.size := (Array.getElem?_eq_some_iff.1 hi).1
  have h1 := List.all_eq_true.1 h i (List.mem_range.2 hlt)
  rw [hi] at h1
  intro e he hb
  have h2 := (Array.all_eq_true'.1 h1) e he
  simp only [hb, Bool.not_true, Bool.false_or, decide_eq_true_eq] at h2
  exact h2
theorem ready_done {ops : Array Oper} {listed : Array Bool} (hsz : listed.size = ops.size) (h : ∀ i, i < ops.size → listed.getD i true = true) : Region.ready md ops listed = [] := by
  rw [List.eq_nil_iff_forall_not_mem]
  intro i hi
  obtain ⟨h1, o, h2, _⟩ := mem_ready.1 hi
  have hlt : i < ops.size := (Array.getElem?_eq_some_iff.1 h2).1
  rw [h i hlt] at h1
  cases h1
theorem getD_tf {l : Array Bool} {i : Nat} (hi : i < l.size) : l.getD i true = l.getD i false := by simp [hi]
/-- where nothing is ready, all is listed -/
theorem all_listed {ops : Array Oper} {listed : Array Bool} (hsz : listed.size = ops.size) (hd : depsB md ops = true) (h : Region.ready md ops listed = []) : ∀ i, i < ops.size → listed.getD i true = true := by
  intro i
  induction i using Nat.strongRecOn with
  | _ i ih =>
    intro hi
    cases hl : listed.getD i true with
    | true => rfl
    | false =>
      exfalso
      have : i ∈ Region.ready md ops listed := by
        refine mem_ready.2 ⟨hl, ops[i], by simp [hi], fun e he hb => ?_⟩
        have hlt := depsB_spec hd (i := i) (o := ops[i]) (by simp [hi]) e he hb
        rw [← getD_tf (by omega)]
        exact ih e.on hlt (by omega)
      rw [h] at this
      cases this
variable {l : List Oper} {o : Oper}
theorem push_getD {listed : Array Bool} (i : Nat) (d : Bool) : (listed.push false).getD i d = if i = listed.size then false else listed.getD i d := by
  by_cases h : i = listed.size
  · subst h; simp
  · rw [if_neg h]
    rcases Nat.lt_or_ge i listed.size with h1 | h1
    · simp [Array.getD_eq_getD_getElem?, Array.getElem?_push, h]
    · simp [Array.getD_eq_getD_getElem?, Array.getElem?_push, h]
theorem ops_at {i : Nat} (hi : i < l.length) : (l ++ [o]).toArray[i]? = l.toArray[i]? := by simp [List.getElem?_append_left hi]
theorem ops_end : (l ++ [o]).toArray[l.length]? = some o := by simp
theorem ready_head {listed : Array Bool} (hsz : listed.size = l.length) {i : Nat} (hi : i < l.length) :
    i ∈ Region.ready md (l ++ [o]).toArray (listed.push false) ↔ i ∈ Region.ready md l.toArray listed := by
  rw [mem_ready, mem_ready, ops_at hi, push_getD, if_neg (by omega)]
  have e : ∀ j, (listed.push false).getD j false = listed.getD j false := by
    intro j
    rw [push_getD]
    split
    · rename_i h; subst h; simp
    · rfl
  simp only [e]
/-- the last operation, all others done -/
theorem tail_now {w : World} {a : Act} {listed : Array Bool} (hsz : listed.size = l.length) (hd : depsB md (l ++ [o]).toArray = true) (hall : ∀ i, i < l.length → listed.getD i true = true)
    (h : wpList P (l ++ [o]).toArray Q' [o] a w) (g : Nat) : wpAny P md (l ++ [o]).toArray Q' (g + 1) (listed.push false) a w := by
  have hr : ∀ i, i ∈ Region.ready md (l ++ [o]).toArray (listed.push false) ↔ i = l.length := by
    intro i
    constructor
    · intro hi
      obtain ⟨h1, oi, h2, _⟩ := mem_ready.1 hi
      have hlt := (Array.getElem?_eq_some_iff.1 h2).1
      simp at hlt
      rcases Nat.lt_or_ge i l.length with hl | hl
      · rw [push_getD, if_neg (by omega), hall i hl] at h1; cases h1
      · omega
    · rintro rfl
      refine mem_ready.2 ⟨by rw [push_getD, if_pos hsz.symm], o, ops_end, fun e he hb => ?_⟩
      have hlt := depsB_spec hd ops_end e he hb
      rw [push_getD, if_neg (by omega), ← getD_tf (by omega)]
      exact hall _ hlt
  have hdone : Region.ready md (l ++ [o]).toArray ((listed.push false).setIfInBounds l.length true) = [] := by
    refine ready_done (by simp [hsz]) fun i hi => ?_
    simp at hi
    by_cases e : i = l.length
    · subst e
      simp [Array.getD_eq_getD_getElem?, hsz]
    · have := hall i (by omega)
      rw [Array.getD_eq_getD_getElem?, Array.getElem?_setIfInBounds, if_neg (Ne.symm e), ← Array.getD_eq_getD_getElem?, push_getD, if_neg (by omega)]
      exact this
  refine ⟨fun h0 => ?_, fun i hi => ?_⟩
  · have := (hr l.length).2 rfl
    rw [h0] at this; cases this
  · obtain rfl := (hr i).1 hi
    have hK : wpAny P md (l ++ [o]).toArray Q' g ((listed.push false).setIfInBounds l.length true) = wpList P (l ++ [o]).toArray Q' [] := by
      funext a w
      cases g with
      | zero => simp [wpAny, wpList, hdone]
      | succ g => simp [wpAny, wpList, hdone]
    rw [hK]
    unfold wpOp
    rw [ops_end]
    exact h
theorem qOp_up {i : Nat} {K : Act → Prop} {a : Act} (hi : i < l.length) (hg : l.all (fun o => o.guard.isNone) = true) (h : qOp P l.toArray C i K a) : qOp P (l ++ [o]).toArray C i K a := by
  unfold qOp at *
  rw [ops_at hi]
  have e : l.toArray[i]? = some l[i] := by simp [hi]
  rw [e] at h ⊢
  have hgi : (l[i]).guard = none := by
    have := List.all_eq_true.1 hg l[i] (List.getElem_mem hi)
    simpa using this
  simp only [Region.wanted, hgi, if_true] at h ⊢
  exact h
theorem transfer {Q0 : Act → Prop} (hd : depsB md (l ++ [o]).toArray = true) (hdl : depsB md l.toArray = true) (hs : Region.sinkB md (l ++ [o]).toArray l.length = true) (hc : Region.chainB md (l ++ [o]).toArray l.length = true) (hg : l.all (fun o => o.guard.isNone) = true)
    (hQ : ∀ a w, C w → Q0 a → wpList P (l ++ [o]).toArray Q' [o] a w) :
    ∀ (f : Nat) (listed : Array Bool) (a : Act) (w : World), C w → listed.size = l.length → HeadInv md (l ++ [o]).toArray l.length (listed.push false) →
      wpAnyQ P md l.toArray C Q0 f listed a → wpAny P md (l ++ [o]).toArray Q' (f + 1) (listed.push false) a w := by
  intro f
  induction f with
  | zero =>
    intro listed a w hw hsz _ h
    exact tail_now hsz hd (by have := all_listed (by simpa using hsz) hdl h.1; simpa using this) (hQ _ _ hw h.2) 0
  | succ f ih =>
    intro listed a w hw hsz inv h
    by_cases hr : Region.ready md l.toArray listed = []
    · exact tail_now hsz hd (by have := all_listed (by simpa using hsz) hdl hr; simpa using this) (hQ _ _ hw (h.1 hr)) (f + 1)
    · obtain ⟨i0, hi0⟩ := List.exists_mem_of_ne_nil _ hr
      obtain ⟨hu0, oi0, ho0, _⟩ := mem_ready.1 hi0
      have hlt0 : i0 < l.length := by have := (Array.getElem?_eq_some_iff.1 ho0).1; simpa using this
      have hno : ∀ t, l.length ≤ t → t ∉ Region.ready md (l ++ [o]).toArray (listed.push false) :=
        tail_waits hs hc (by simp) inv (l.length - i0) i0 rfl hlt0 (by rw [push_getD, if_neg (by omega)]; exact hu0)
      refine ⟨fun h0 => ?_, fun i hi => ?_⟩
      · have := (ready_head (md := md) (o := o) hsz hlt0).2 hi0
        rw [h0] at this; cases this
      · have hil : i < l.length := by
          rcases Nat.lt_or_ge i l.length with h | h
          · exact h
          · exact absurd hi (hno i h)
        have hi' := (ready_head (md := md) (o := o) hsz hil).1 hi
        have hset : (listed.push false).setIfInBounds i true = (listed.setIfInBounds i true).push false := by
          apply Array.ext_getElem?
          intro j
          simp only [Array.getElem?_setIfInBounds, Array.getElem?_push, Array.size_push, Array.size_setIfInBounds]
          by_cases e : i = j
          · subst e
            rw [if_pos rfl, if_pos (by omega), if_neg (by omega), if_pos rfl, if_pos (by omega)]
          · rw [if_neg e, if_neg e]
        rw [hset]
        refine wpOp_of_qOp hw (fun a' w' hw' hk => ih _ a' w' hw' (by simpa using hsz) ?_ hk) (qOp_up hil hg (h.2 i hi'))
        rw [← hset]
        exact inv.set hi hil
end
/-- the region's wp: the head, quiet in the class, walked in the text's order; then the last operation, from every world of the class -/
theorem wp_region_quiet_last {P : Program} {C : World → Prop} {id : Nat} {Q : Exit → Act → World → Prop} {a : Act} {w : World} (n : Nat) {L : List Oper} (hm : P.follows .mixedOrders = true)
    (hL : (L.length == n + 1) = true) (hB : Region.lexB .any (L.take n).toArray = true) (hd : depsB .any L.toArray = true) (hdl : depsB .any (L.take n).toArray = true) (hs : Region.sinkB .any L.toArray n = true) (hc : Region.chainB .any L.toArray n = true) (hg : (L.take n).all (fun o => o.guard.isNone) = true)
    (hC : C w.drew)
    (h : wpQuiet P (L.take n).toArray C (fun a' => ∀ w', C w' → wpList P L.toArray Q (L.drop n) a' w') (L.take n) a) : (Code.region id L.toArray true).wp P Q a w := by
  have hL' : L.length = n + 1 := by simpa using hL
  obtain ⟨o, ho⟩ : ∃ o, L.drop n = [o] := by
    have : (L.drop n).length = 1 := by simp; omega
    exact List.length_eq_one_iff.1 this
  have hLo : L.take n ++ [o] = L := by rw [← ho]; exact List.take_append_drop n L
  have hln : (L.take n).length = n := by simp; omega
  rw [ho] at h
  simp only [Region.lexB, Bool.and_eq_true] at hB
  have hq := wpAnyQ_lex (C := C) (md := .any) hB.1 (L.take n) 0 (Array.replicate (L.take n).toArray.size false) a (by simp) (by simpa using hB.2) h
  refine wp_region_any hm ?_
  have hX := transfer (P := P) (md := .any) (C := C) (Q' := Q) (l := L.take n) (o := o) (Q0 := fun a' => ∀ w', C w' → wpList P L.toArray Q [o] a' w') (by rw [hLo]; exact hd) hdl (by rw [hLo, hln]; exact hs) (by rw [hLo, hln]; exact hc) hg (fun a w hw h => by rw [hLo]; exact h w hw) (L.take n).length (Array.replicate (L.take n).toArray.size false) a w.drew hC (by simp) ?_ hq
  · rw [hLo, hln] at hX
    have e : (Array.replicate (L.take n).toArray.size false).push false = Array.replicate L.toArray.size false := by
      rw [← Array.replicate_succ]; congr 1; simp; omega
    rw [e] at hX
    have e2 : L.toArray.size = n + 1 := by simpa using hL'
    rw [e2] at hX ⊢
    exact hX
  · refine ⟨by simp, fun j oj hj hl e he hb => ?_, fun t ht ht2 => ?_⟩
    · exfalso
      rw [push_getD] at hl
      split at hl
      · cases hl
      · rw [getD_replicate_false] at hl; cases hl
    · rw [hLo] at ht2
      rw [push_getD, if_pos]
      simp at ht2 ht ⊢
      omega
end Go.Proofs.YtnkcjekfjlbcdaaGreatDoor
