/- Steps of the draw of an item. No condition. -/
import Derived.Test.YtfkgcighooijhaaGreatDoorStepR
import Derived.Test.YtfkgcighooijhaaGreatDoorInsert
import Derived.Test.YtfkgcighooijhaaGreatDoorDrawFields
import Derived.Test.YtfkgcighooijhaaGreatDoorDrawText
namespace Go.Proofs.YtfkgcighooijhaaGreatDoor
open Go.RowKit
set_option linter.unusedVariables false
set_option linter.unusedSimpArgs false

theorem load_ev (w : World) (g : Nat) (v0 v1 v2 v3 v5 v6 : Int) (s7 s8 : ByteArray) (A4 A9 : Option Addr) (n4 c4 n9 c9 : Nat) (h : Blk w g 35 #[.int .i64 v0, .int .i64 v1, .int .i64 v2, .int .i64 v3, .slice A4 n4 c4, .int .i64 v5, .int .i64 v6, .string s7, .string s8, .slice A9 n9 c9]) :
    (Instr.loadAt 35 (.pointer (some ⟨g, 0, none⟩))).run Tryz.prog w = .ok (.agg #[.int .i64 v0, .int .i64 v1, .int .i64 v2, .int .i64 v3, .slice A4 n4 c4, .int .i64 v5, .int .i64 v6, .string s7, .string s8, .slice A9 n9 c9]) w := by
  have c0 := h.cell 0
  have c1 := h.cell 1
  have c2 := h.cell 2
  have c3 := h.cell 3
  have c4 := h.cell 4
  have c5 := h.cell 5
  have c6 := h.cell 6
  have c7 := h.cell 7
  have c8 := h.cell 8
  have c9 := h.cell 9
  simp at c0 c1 c2 c3 c4 c5 c6 c7 c8 c9
  have hu := Tryz.underlying35
  simp [go_sem, c0, c1, c2, c3, c4, c5, c6, c7, c8, c9]
theorem fa_ev7 (w : World) (g : Nat) : (Instr.fieldAt 35 (.pointer (some ⟨g, 0, none⟩)) 7).run Tryz.prog w = .ok (.pointer (some ⟨g, 7, none⟩)) w := by
  simp [go_sem]
end Go.Proofs.YtfkgcighooijhaaGreatDoor
