/- A round of the law's loop. -/
import Derived.Test.YtimlkngjkiknfaaGreatOoB
import Derived.Test.YtimlkngjkiknfaaGreatBbLaw
import Derived.Test.YtimlkngjkiknfaaGreatBbRunB
set_option linter.unusedSimpArgs false
set_option maxRecDepth 100000
namespace Go.Proofs.Bb.Oo
open Go Go.Proofs

theorem u16w1 : IntKind.u16.wrap 1 = 1 := by decide
theorem u16w2 : IntKind.u16.wrap 2 = 2 := by decide
theorem u16w3 : IntKind.u16.wrap 3 = 3 := by decide
theorem u16w4 : IntKind.u16.wrap 4 = 4 := by decide
theorem u16w5 : IntKind.u16.wrap 5 = 5 := by decide
theorem u16w0 : IntKind.u16.wrap 0 = 0 := by decide
theorem deaden_len (h : List HB) : (deaden h).length = h.length := by simp [deaden]
theorem order0 (m18 m20 m22) : (lvl F S0 100).1 true 19 [.int .i64 0] (H m18 m20 m22) = some (.agg (ask6 0), H m18 m20 m22) := by kernel_rfl
theorem order1 (m18 m20 m22) : (lvl F S0 100).1 true 19 [.int .i64 1] (H m18 m20 m22) = some (.agg (ask6 1), H m18 m20 m22) := by kernel_rfl
theorem order2 (m18 m20 m22) : (lvl F S0 100).1 true 19 [.int .i64 2] (H m18 m20 m22) = some (.agg (ask6 2), H m18 m20 m22) := by kernel_rfl
theorem order3 (m18 m20 m22) : (lvl F S0 100).1 true 19 [.int .i64 3] (H m18 m20 m22) = some (.agg (ask6 3), H m18 m20 m22) := by kernel_rfl
theorem order4 (m18 m20 m22) : (lvl F S0 100).1 true 19 [.int .i64 4] (H m18 m20 m22) = some (.agg (ask6 4), H m18 m20 m22) := by kernel_rfl
theorem order5 (m18 m20 m22) : (lvl F S0 100).1 true 19 [.int .i64 5] (H m18 m20 m22) = some (.agg (ask6 5), H m18 m20 m22) := by kernel_rfl

theorem echoT (m18 m20 m22) : (lvl F S0 100).1 true 23 [.agg (askL true 1)] (H m18 m20 m22) = some (.agg (okL true 1), H m18 m20 m22) := by kernel_rfl
theorem echoT2 (m18 m20 m22) : (lvl F S0 100).1 true 23 [.agg (askL true 2)] (H m18 m20 m22) = some (.agg (okL true 2), H m18 m20 m22) := by kernel_rfl
theorem echoT3 (m18 m20 m22) : (lvl F S0 100).1 true 23 [.agg (askL true 3)] (H m18 m20 m22) = some (.agg (okL true 3), H m18 m20 m22) := by kernel_rfl
theorem echoF (m18 m20 m22) : (lvl F S0 100).1 true 23 [.agg (askL false 1)] (H m18 m20 m22) = some (.agg (okL false 1), H m18 m20 m22) := by kernel_rfl
theorem echoF2 (m18 m20 m22) : (lvl F S0 100).1 true 23 [.agg (askL false 2)] (H m18 m20 m22) = some (.agg (okL false 2), H m18 m20 m22) := by kernel_rfl
theorem echoF3 (m18 m20 m22) : (lvl F S0 100).1 true 23 [.agg (askL false 3)] (H m18 m20 m22) = some (.agg (okL false 3), H m18 m20 m22) := by kernel_rfl
theorem sameT (m18 m20 m22) : (lvl F S0 100).1 false 22 [.agg (okL true 1), .agg (okL true 1)] (deaden (H m18 m20 m22)) = some (.bool true, deaden (H m18 m20 m22)) := by kernel_rfl
theorem sameT2 (m18 m20 m22) : (lvl F S0 100).1 false 22 [.agg (okL true 2), .agg (okL true 2)] (deaden (H m18 m20 m22)) = some (.bool true, deaden (H m18 m20 m22)) := by kernel_rfl
theorem sameT3 (m18 m20 m22) : (lvl F S0 100).1 false 22 [.agg (okL true 3), .agg (okL true 3)] (deaden (H m18 m20 m22)) = some (.bool true, deaden (H m18 m20 m22)) := by kernel_rfl
theorem sameF (m18 m20 m22) : (lvl F S0 100).1 false 22 [.agg (okL false 1), .agg (okL false 1)] (deaden (H m18 m20 m22)) = some (.bool true, deaden (H m18 m20 m22)) := by kernel_rfl
theorem sameF2 (m18 m20 m22) : (lvl F S0 100).1 false 22 [.agg (okL false 2), .agg (okL false 2)] (deaden (H m18 m20 m22)) = some (.bool true, deaden (H m18 m20 m22)) := by kernel_rfl
theorem sameF3 (m18 m20 m22) : (lvl F S0 100).1 false 22 [.agg (okL false 3), .agg (okL false 3)] (deaden (H m18 m20 m22)) = some (.bool true, deaden (H m18 m20 m22)) := by kernel_rfl
theorem stateA (c1 c2) : (lvl F S0 100).1 true 24 [.pt (.h 23) 0 0 0, .int .i64 5] (H (.map [] c1) (.map [] c2) (.map [] 0)) = some (.agg [.int .i64 0, .int .i64 0, .int .i64 1000, .int .u64 0], H (.map [] c1) (.map [] c2) (.map [] 0)) := by kernel_rfl
theorem stateB (c1 c2 r b c) : (lvl F S0 100).1 true 24 [.pt (.h 23) 0 0 0, .int .i64 5] (H (.map [] c1) (.map [] c2) (se 0 r b c)) = some (.agg [.int .i64 0, .int .i64 r, .int .i64 1000, .int .u64 0], H (.map [] c1) (.map [] c2) (se 0 r b c)) := by kernel_rfl
theorem stateO (b1 c1 b2 c2 b c) : (lvl F S0 100).1 true 24 [.pt (.h 23) 0 0 0, .int .i64 5] (H (vw b1 c1) (lf b2 c2) (se 1 0 b c)) = some (.agg [.int .i64 1, .int .i64 0, .int .i64 1000, .int .u64 0], H (vw b1 c1) (lf b2 c2) (se 1 0 b c)) := by kernel_rfl
theorem H_len (m18 m20 m22) : (H m18 m20 m22).length = 24 := rfl
theorem dH_len (m18 m20 m22) : (deaden (H m18 m20 m22)).length = 24 := rfl

end Go.Proofs.Bb.Oo
