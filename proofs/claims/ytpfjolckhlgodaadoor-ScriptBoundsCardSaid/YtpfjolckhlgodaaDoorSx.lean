/- What the rows' listed variables give a walk; a world that holds them. -/
import Derived.Test.YtpfjolckhlgodaaDoorSw
import Derived.Test.YtpfjolckhlgodaaDoorRows
import Derived.Shelf.Lay
import Derived.Shelf.LaysM
import Derived.Lay
import Derived.MakeChecks
import Derived.Stop.LaidErr
import Derived.Lib.LaidTab
import Derived.Deep.DeepHandedRow
namespace Go.Proofs
open Go.Shelf
shelf_lay LaysM.n145 Nm 145 at Tryd as Tryd.laysCutM
end Go.Proofs
namespace Go.Proofs.YtpfjolckhlgodaaDoor
open Go Go.RowKit Go.ChangeShapes Go.WideShapes Go.ChangeAt
set_option maxRecDepth 100000
/-- What all rows of this seat list. -/
abbrev laidL : List (String × DataW Unit) := Rows.scriptParsesRow.laid
theorem row_errs (u : TypeId) (h : Tryd.prog.typeName? 3 u = some "*errors.errorString") : u = 107 :=
  typeName_ptr_named (nm := "errors.errorString") (by rw [show "*" ++ "errors.errorString" = "*errors.errorString" by decide]; kernel_rfl) (by kernel_rfl) (by decide) u (by rw [show "*" ++ "errors.errorString" = "*errors.errorString" by decide]; exact h)
theorem gl_of {W : World} (hL : laidMetH Tryd.prog laidL W) (hsh : W.ShapedOpen Tryd.prog) : Gl W := by
  rw [MakeChecks.laidMetH_plain _ _ _ (by kernel_rfl)] at hL
  have h2 : laidMet Tryd.prog (("internal/strconv.uint64pow10", Rows.laid_internal_strconv_uint64pow10) :: laidL.drop 3) W := hL.tail.tail
  have h4 : laidMet Tryd.prog (("strconv.ErrRange", Rows.laid_strconv_ErrRange) :: laidL.drop 5) W := h2.tail.tail
  have h5 : laidMet Tryd.prog (("strconv.ErrSyntax", Rows.laid_strconv_ErrSyntax) :: laidL.drop 6) W := h4.tail
  obtain ⟨a, s, hv, _⟩ := laid_sentinel (g := 2) h4 (by kernel_rfl) (by kernel_rfl) Tryd.underlying60 row_errs Tryd.underlying107 Tryd.underlying109 rfl rfl Tryd.underlying9 (by kernel_rfl) (by kernel_rfl)
  obtain ⟨a', s', hv', _⟩ := laid_sentinel (g := 1) h5 (by kernel_rfl) (by kernel_rfl) Tryd.underlying60 row_errs Tryd.underlying107 Tryd.underlying109 rfl rfl Tryd.underlying9 (by kernel_rfl) (by kernel_rfl)
  have hp : (Rows.laid_internal_strconv_uint64pow10 : DataW Unit) = Lib.tabData .u64 Lib.pow10Tab := by
    unfold Rows.laid_internal_strconv_uint64pow10 Lib.tabData Lib.pow10Tab
    congr 1
  rw [hp] at h2
  have c1 : W.cell? ⟨1, 0, none⟩ = some (.iface 107 (.pointer (some a'))) := by
    have := World.var?_cell (g := 1) (by kernel_rfl) hv' 0
    simpa using this
  have c2 : W.cell? ⟨2, 0, none⟩ = some (.iface 107 (.pointer (some a))) := by
    have := World.var?_cell (g := 2) (by kernel_rfl) hv 0
    simpa using this
  exact ⟨Lib.tabIs_of_head (g := 3) (by kernel_rfl) (by kernel_rfl) Tryd.underlying103 Tryd.underlying85 (by kernel_rfl) (by kernel_rfl) h2, Tryd.laysCutM.s1_3 W hsh, ⟨_, c1, .inr ⟨_, _, rfl⟩⟩, ⟨_, c2, .inr ⟨_, _, rfl⟩⟩⟩
end Go.Proofs.YtpfjolckhlgodaaDoor
