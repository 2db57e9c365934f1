/- The variables that Atoi and Split read, out of what the row lays and the world's shape. -/
import Derived.Test.YtnkcjekfjlbcdaaGreatDoorAtoW
import Derived.Stop.LaidErr
import Derived.Shelf.LaysM
import Derived.LaidMore
import Derived.MakeChecks
import Derived.LaidSub
import Derived.Stop.Joined
namespace Go.Proofs.YtnkcjekfjlbcdaaGreatDoor
set_option linter.unusedVariables false
set_option linter.unusedSimpArgs false
set_option maxRecDepth 20000
open Go Go.RowKit Go.ChangeShapes
theorem err_cell {W : World} {n nm : String} {d : DataW Unit} {g : Nat} {ti : TypeId} {ms : Array (String × TypeId)} (h : laidMet Tryz.prog [(n, .iface nm d)] W)
    (hg : Tryz.prog.globalNamed n = some g) (ht : (Tryz.prog.globals[g]?).map (·.type) = some ti) (hi : Tryz.prog.underlying ti = some (.interface ms)) : ∃ ev, W.cell? ⟨g, 0, none⟩ = some ev ∧ (ev = .nilIface ∨ ∃ te pe, ev = .iface te pe) := by
  obtain ⟨ps, ⟨g0, t0, cs0, f0, p0, q0, hg0, ht0, hv0, hd0, _, e0⟩, _, hrows⟩ := h
  obtain rfl := Option.some.inj (hg.symm.trans hg0)
  obtain rfl := Option.some.inj (ht.symm.trans ht0)
  obtain ⟨l0⟩ := cs0
  obtain ⟨f1, u, v, e, hn, h1⟩ := iface_of_trod hi hd0
  have e' : l0 = [.iface u v] := e
  subst e'
  exact ⟨_, by simpa using World.var?_cell hg hv0 0, .inr ⟨u, v, rfl⟩⟩
theorem errs_of {W : World} {n1 n2 : String} {d1 d2 : DataW Unit} (h0 : laidMet Tryz.prog [("strconv.ErrSyntax", .iface n1 d1)] W) (h1 : laidMet Tryz.prog [("strconv.ErrRange", .iface n2 d2)] W) (hs : W.ShapedOpen Tryz.prog) : Errs W :=
  ⟨err_cell h0 (by kernel_rfl) (by kernel_rfl) Tryz.underlying51, err_cell h1 (by kernel_rfl) (by kernel_rfl) Tryz.underlying51,
    cell_of_shapedOpen_int (zero := #[.int .i64 0]) (t := 3) hs (of_decide_eq_true (by kernel_rfl)) (by kernel_rfl) rfl (by kernel_rfl) (by kernel_rfl) Tryz.underlying3⟩
end Go.Proofs.YtnkcjekfjlbcdaaGreatDoor
