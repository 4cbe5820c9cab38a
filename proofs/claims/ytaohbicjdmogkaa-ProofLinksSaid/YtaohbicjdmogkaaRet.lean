/-
  Returns of a struct that lies in a block of the call's own.
-/
import Derived.Test.YtaohbicjdmogkaaBlk
import Derived.Laws.Rows
import Derived.Laws.ResultCell
namespace Go.Proofs.Ytaohbicjdmogkaa
open Go Go.RowKit

section
variable {P : Program} {fn : Func} {p u : Tmp} {ty : TypeId} {R : Ending → World → Prop} {a : Act} {w : World} {g : Nat} {t : TypeId} {cs : Array Value} {d : TypeDesc}
theorem ret_cell (hB : Blk w g t cs) (h : fn.results = #[.cell p ty]) (hp : a.tmps.getD p undef = .pointer (some ⟨g, 0, none⟩))
    (hu : P.underlying ty = some d) (hd : (match d with | .struct _ | .array _ _ => true | _ => false) = true) (hi : (P.info? ty).map (·.size) = some cs.size) (hdf : a.defers = [])
    (hR : R (.returned (.agg cs)) w) : bodyPost P fn R .ret a w :=
  bodyPost_ret (results_cell_row h a.tmps w g t cs (0, 0) d hp hB hu hd hi) hdf hR
theorem ret_cell_tmp (hB : Blk w g t cs) (h : fn.results = #[.cell p ty, .tmp u]) (hp : a.tmps.getD p undef = .pointer (some ⟨g, 0, none⟩))
    (hu : P.underlying ty = some d) (hd : (match d with | .struct _ | .array _ _ => true | _ => false) = true) (hi : (P.info? ty).map (·.size) = some cs.size) (hdf : a.defers = [])
    (hR : R (.returned (.tuple #[.agg cs, a.tmps.getD u undef])) w) : bodyPost P fn R .ret a w := by
  refine bodyPost_ret ?_ hdf hR
  have e : ({ fn with results := #[.cell p ty] } : Func).results = #[.cell p ty] := rfl
  rw [results_cell_tmp h]
  have h1 : (loadVar ty ⟨g, 0, none⟩).run P w = .ok (.agg cs) w := run_loadVar_row w g t ty cs (0, 0) d hB hu hd hi
  rw [hp]
  show (((asAddr (.pointer (some ⟨g, 0, none⟩))).run P w).andThen _) = _
  simp only [asAddr, Sem.run_pure, Result.andThen_ok, h1]
end
end Go.Proofs.Ytaohbicjdmogkaa
