/- Words for the walks of the laws: own memory kept across marks; contracts of the helpers on slices in one form. No condition but what each theorem names. -/
import Derived.Test.YtgpejighomohlaaAlgW
import Derived.Test.YtgpejighomohlaaMem
import Derived.Deep.RegionHeld3
namespace Go.Proofs.Ytgpejighomohlaa
set_option linter.unusedVariables false
set_option linter.unusedSimpArgs false
set_option maxRecDepth 20000
open Go.RowKit
theorem OwI.chgHi {w w' : World} {B B0 b0 b1 n : Nat} {A : Option Addr} {xs : List Int} (h : OwI w b0 b1 A n xs) (hc : Chg B0 B w w') (h0 : B ≤ b0) (h1 : b1 ≤ w.heap.size) : OwI w' b0 b1 A n xs :=
  ⟨h.1, h.2.1, fun hn => by
    obtain ⟨b, o, e, ha, hb, hx⟩ := h.2.2 hn
    exact ⟨b, o, e, ha, hb, fun j hj => ⟨(hc.cell b _ (.inr (by omega)) (by omega)).trans (hx j hj).1, (hc.frozen b _ (.inr (by omega)) (by omega)).trans (hx j hj).2⟩⟩⟩
theorem eqIntS_rv {B1 B2 : Nat} (A1 A2 : Option Addr) (n1 c1 n2 c2 : Nat) (xs ys : List Int) (w : World) (h1 : RdI w B1 A1 n1 xs) (h2 : RdI w B2 A2 n2 ys) :
    Calls Try.prog 21 #[.slice A1 n1 c1, .slice A2 n2 c2] w (Rv (.bool (xs == ys)) w) := (eqIntS_any A1 A2 n1 c1 n2 c2 xs ys w h1 h2).mono fun _ _ h => h.rv
theorem heldIntS_rv {B : Nat} (A : Option Addr) (n c : Nat) (k : Int) (w : World) (h : RdI w B A n (mkI k n)) (hk0 : 0 ≤ k) (hk1 : k + n ≤ 1000000000000) :
    Calls Try.prog 26 #[.slice A n c, .int .i64 k] w (Rv (.int .i64 (k + n)) w) := (heldIntS_any A n c k w h hk0 hk1).mono fun _ _ h => ⟨h.1, by rw [← h.2]; exact Below.refl _ _⟩
/-! ### steps within a region that draws its order and holds calls -/
section
variable {W w w' : World} {N n : Nat} {A : Option Addr} {d : List Int}
theorem Below.step (h : Below W.heap.size W w) (hb : Below w.heap.size w w') : Below W.heap.size W w' := Below.trans h (hb.mono h.size)
theorem Below.stepA {o : Obj} (h : Below W.heap.size W w) (hb : Below (w.alloc o).heap.size (w.alloc o) w') : Below W.heap.size W w' :=
  Below.trans (Below.alloc h h.size o) (hb.mono (by have := h.size; simp; omega))
theorem Below.stepD (h : Below W.heap.size W w) (hb : Below w.drew.heap.size w.drew w') : Below W.heap.size W w' := Below.trans (Below.drew h) (hb.mono h.size)
theorem Below.stepAD {o : Obj} (h : Below W.heap.size W w) (hb : Below (w.alloc o).drew.heap.size (w.alloc o).drew w') : Below W.heap.size W w' :=
  Below.trans (Below.drew (Below.alloc h h.size o)) (hb.mono (by have := h.size; rw [size_drew]; simp; omega))
theorem Box.newAD {vs : Array Value} {T : TypeId} (hb : Below (w.alloc (.cells vs T)).drew.heap.size (w.alloc (.cells vs T)).drew w') : Box w' w.heap.size vs := ((Box.new w vs T).drew).below hb (by rw [size_drew]; simp)
theorem Below.alo {o : Obj} (h : Below W.heap.size W w) : Below W.heap.size W (w.alloc o) := Below.alloc h h.size o
theorem RdI.step (h : RdI w w.heap.size A n d) (hb : Below w.heap.size w w') : RdI w' w'.heap.size A n d := (h.below hb (Nat.le_refl _)).up hb.size
theorem RdI.alo {o : Obj} (h : RdI w w.heap.size A n d) : RdI (w.alloc o) (w.alloc o).heap.size A n d := (h.alloc (Nat.le_refl _) o).up (by simp)
theorem RdI.stepA {o : Obj} (h : RdI w w.heap.size A n d) (hb : Below (w.alloc o).heap.size (w.alloc o) w') : RdI w' w'.heap.size A n d := RdI.step (RdI.alo h) hb
theorem Box.step {b : Nat} {vs : Array Value} (h : Box w b vs) (hb : Below w.heap.size w w') : Box w' b vs := h.below hb h.lt
theorem Box.newA {vs : Array Value} {T : TypeId} (hb : Below (w.alloc (.cells vs T)).heap.size (w.alloc (.cells vs T)) w') : Box w' w.heap.size vs := (Box.new w vs T).below hb (by simp)
/-- what a statement 'r := F(..)' with a matrix leaves, in whichever order: the matrix's box g, its data -/
def CutM (W : World) (p r c : Int) (d : List Int) (s : Value) (wx : World) : Prop :=
  ∃ (g : Nat) (A : Option Addr) (n k lo hi : Nat), s = .pointer (some ⟨g, 0, none⟩) ∧ Hd A n k ∧ Box wx g #[.int .i64 p, .int .i64 r, .int .i64 c, .slice A n k] ∧ OwI wx lo hi A n d ∧ (g < lo ∨ hi ≤ g) ∧ W.heap.size ≤ lo ∧ hi ≤ wx.heap.size ∧ W.heap.size ≤ g ∧ g < wx.heap.size ∧ Below W.heap.size W wx
theorem CutM.a {p r c : Int} {k lo : Nat} (h : Below W.heap.size W w) (hq : OwI w lo w.heap.size A n d) (hd : Hd A n k) (hlo : W.heap.size ≤ lo) (T : TypeId) :
    CutM W p r c d (.pointer (some ⟨w.heap.size, 0, none⟩)) (w.alloc (.cells #[.int .i64 p, .int .i64 r, .int .i64 c, .slice A n k] T)) :=
  ⟨_, _, _, _, _, _, rfl, hd, Box.new _ _ _, hq.alloc (Nat.le_refl _) _, .inr (Nat.le_refl _), hlo, by simp, h.size, by simp, Below.alo h⟩
theorem CutM.b {p r c : Int} {k lo g : Nat} {u0 u1 u2 u3 : Value} (h : Below W.heap.size W w) (hx : Box w g #[u0, u1, u2, u3]) (hq : OwI w lo w.heap.size A n d) (hd : Hd A n k) (hlo : W.heap.size ≤ lo) (hg : W.heap.size ≤ g) (hg2 : g < lo) :
    CutM W p r c d (.pointer (some ⟨g, 0, none⟩)) ((((w.setCell ⟨g, 0, none⟩ (.int .i64 p)).setCell ⟨g, 1, none⟩ (.int .i64 r)).setCell ⟨g, 2, none⟩ (.int .i64 c)).setCell ⟨g, 3, none⟩ (.slice A n k)) :=
  ⟨_, _, _, _, _, _, rfl, hd, hx.set4 _ _ _ _, (((hq.setLow hg2 _).setLow hg2 _).setLow hg2 _).setLow hg2 _, .inl hg2, hlo, by simp, hg, by simpa using hx.lt, (((h.setCell hg _).setCell hg _).setCell hg _).setCell hg _⟩
/-- the same with an algebra -/
def CutA (W : World) (p q : Int) (d : List Int) (s : Value) (wx : World) : Prop :=
  ∃ (g : Nat) (A : Option Addr) (n k lo hi : Nat), s = .pointer (some ⟨g, 0, none⟩) ∧ Hd A n k ∧ Box wx g #[.int .i64 p, .int .i64 q, .slice A n k] ∧ OwI wx lo hi A n d ∧ (g < lo ∨ hi ≤ g) ∧ W.heap.size ≤ lo ∧ hi ≤ wx.heap.size ∧ W.heap.size ≤ g ∧ g < wx.heap.size ∧ Below W.heap.size W wx
theorem CutA.a {p q : Int} {k lo : Nat} (h : Below W.heap.size W w) (hq : OwI w lo w.heap.size A n d) (hd : Hd A n k) (hlo : W.heap.size ≤ lo) (T : TypeId) :
    CutA W p q d (.pointer (some ⟨w.heap.size, 0, none⟩)) (w.alloc (.cells #[.int .i64 p, .int .i64 q, .slice A n k] T)) :=
  ⟨_, _, _, _, _, _, rfl, hd, Box.new _ _ _, hq.alloc (Nat.le_refl _) _, .inr (Nat.le_refl _), hlo, by simp, h.size, by simp, Below.alo h⟩
theorem CutA.b {p q : Int} {k lo g : Nat} {u0 u1 u2 : Value} (h : Below W.heap.size W w) (hx : Box w g #[u0, u1, u2]) (hq : OwI w lo w.heap.size A n d) (hd : Hd A n k) (hlo : W.heap.size ≤ lo) (hg : W.heap.size ≤ g) (hg2 : g < lo) :
    CutA W p q d (.pointer (some ⟨g, 0, none⟩)) (((w.setCell ⟨g, 0, none⟩ (.int .i64 p)).setCell ⟨g, 1, none⟩ (.int .i64 q)).setCell ⟨g, 2, none⟩ (.slice A n k)) :=
  ⟨_, _, _, _, _, _, rfl, hd, hx.set3 _ _ _, ((hq.setLow hg2 _).setLow hg2 _).setLow hg2 _, .inl hg2, hlo, by simp, hg, by simpa using hx.lt, ((h.setCell hg _).setCell hg _).setCell hg _⟩
/-- the same with a slice -/
def CutI (W : World) (d : List Int) (s : Value) (wx : World) : Prop :=
  ∃ (A : Option Addr) (n k lo hi : Nat), s = .slice A n k ∧ Hd A n k ∧ OwI wx lo hi A n d ∧ W.heap.size ≤ lo ∧ hi ≤ wx.heap.size ∧ Below W.heap.size W wx
theorem CutI.a {k lo : Nat} (h : Below W.heap.size W w) (hq : OwI w lo w.heap.size A n d) (hd : Hd A n k) (hlo : W.heap.size ≤ lo) : CutI W d (.slice A n k) w :=
  ⟨_, _, _, _, _, rfl, hd, hq, hlo, Nat.le_refl _, h⟩
end
/-- a call that hands back a new matrix and a bool -/
def RetMB (p r c : Int) (d : List Int) (b : Bool) (w : World) (e : Ending) (w' : World) : Prop :=
  ∃ A n cap, e = .returned (.tuple #[.agg #[.int .i64 p, .int .i64 r, .int .i64 c, .slice A n cap], .bool b]) ∧ Hd A n cap ∧ Below w.heap.size w w' ∧ OwI w' w.heap.size w'.heap.size A n d
/-- .. a new algebra and a bool -/
def RetAB (p n : Int) (d : List Int) (b : Bool) (w : World) (e : Ending) (w' : World) : Prop :=
  ∃ A l cap, e = .returned (.tuple #[.agg #[.int .i64 p, .int .i64 n, .slice A l cap], .bool b]) ∧ Hd A l cap ∧ Below w.heap.size w w' ∧ OwI w' w.heap.size w'.heap.size A l d
/-- .. a new slice and a bool -/
def RetIB (xs : List Int) (b : Bool) (w : World) (e : Ending) (w' : World) : Prop :=
  ∃ A n c, e = .returned (.tuple #[.slice A n c, .bool b]) ∧ Hd A n c ∧ Below w.heap.size w w' ∧ OwI w' w.heap.size w'.heap.size A n xs
end Go.Proofs.Ytgpejighomohlaa
