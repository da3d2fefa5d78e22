/- What is known of the world all along: the table of powers of ten. -/
import Derived.Test.YtieoipmbcdfmeaaDoorTrHeap
import Derived.Test.YtieoipmbcdfmeaaDoorProg
import Derived.Lib.LaidTab
import Derived.Lib.ItoaNum
import Derived.KernelRfl
namespace Go.Proofs.YtieoipmbcdfmeaaDoor.Ab
open Go
/-- The variables of the program that may be read: type, number. -/
def globs (t g : Nat) : Bool := t == 85 && (g == 2 || g == 3)
def IfV (v : Value) : Prop := v = .nilIface ∨ ∃ te pe, v = .iface te pe
def J (w : World) : Prop := Lib.TabIs Tryd.prog w "internal/strconv.uint64pow10" .u64 Lib.pow10Tab ∧ (∃ v, w.var? Tryd.prog "strconv.ErrSyntax" = some #[v] ∧ IfV v) ∧ ∃ v, w.var? Tryd.prog "strconv.ErrRange" = some #[v] ∧ IfV v
theorem gPow : Tryd.prog.globalNamed "internal/strconv.uint64pow10" = some 0 := by kernel_rfl
theorem gES : Tryd.prog.globalNamed "strconv.ErrSyntax" = some 2 := by kernel_rfl
theorem gER : Tryd.prog.globalNamed "strconv.ErrRange" = some 3 := by kernel_rfl
theorem J_cells {w : World} (h : J w) : (∃ v, w.cell? ⟨2, 0, none⟩ = some v ∧ IfV v) ∧ ∃ v, w.cell? ⟨3, 0, none⟩ = some v ∧ IfV v := by
  obtain ⟨-, ⟨v2, h2, i2⟩, v3, h3, i3⟩ := h
  have e2 := World.var?_cell gES h2 0
  have e3 := World.var?_cell gER h3 0
  exact ⟨⟨v2, by simpa using e2, i2⟩, v3, by simpa using e3, i3⟩
end Go.Proofs.YtieoipmbcdfmeaaDoor.Ab
