/- The parts of the law's code, and the memory that it makes. -/
import Derived.Test.YtimlkngjkiknfaaGreatOoA
import Derived.Test.YtimlkngjkiknfaaGreatBbRun
set_option linter.unusedSimpArgs false
set_option maxRecDepth 100000
namespace Go.Proofs.Bb.Oo
open Go Go.Proofs

def body : ACode := p1 (p1 (p2 (p1 (p2 (p2 (p2 (p2 (p2 (p2 c3.code)))))))))
theorem code_eq : c3.code = .seq (p1 c3.code) (.seq (p1 (p2 c3.code)) (.seq (p1 (p2 (p2 c3.code))) (.seq (p1 (p2 (p2 (p2 c3.code)))) (.seq (p1 (p2 (p2 (p2 (p2 c3.code))))) (.seq (p1 (p2 (p2 (p2 (p2 (p2 c3.code))))))
  (.seq (.seq (p1 (p1 (p2 (p2 (p2 (p2 (p2 (p2 c3.code)))))))) (.block 0 (.loop body))) (p2 (p2 (p2 (p2 (p2 (p2 (p2 c3.code))))))))))))) := rfl
def inc : ACode := p2 (p2 body)
def bb : ACode := p1 (p1 (p2 body))
theorem body_eq : body = .seq (.seq (p1 (p1 body)) (.cond (.t 31) .skip (.exit 0))) (.seq (.block 1 bb) inc) := rfl
def dd : ACode := p1 (p1 (p2 (p2 bb)))
def rest : ACode := .seq (p2 (p1 (p2 (p2 bb)))) (p2 (p2 (p2 bb)))
theorem bb_eq : bb = .seq (p1 bb) (.seq (p1 (p2 bb)) (.seq (.seq dd (p2 (p1 (p2 (p2 bb))))) (p2 (p2 (p2 bb))))) := rfl

def cfgL : List AV := [.sl 3 [[.int .i64 0, .int .i64 0, .int .i64 40], [.int .i64 1, .int .i64 0, .int .i64 40], [.int .i64 2, .int .i64 0, .int .i64 20], [.int .i64 2, .int .i64 24, .int .i64 40], [.int .i64 3, .int .i64 0, .int .i64 40]] (some []),
  .sl 3 [[.int .i64 2, .int .i64 4, .int .i64 2], [.int .i64 2, .int .i64 8, .int .i64 4], [.int .i64 3, .int .i64 4, .int .i64 4]] (some []), .int .i64 100, .int .i64 1000, .int .i64 8, .int .i64 8, .int .i64 100000, .int .i64 500, .int .i64 2000, .int .i64 1024, .int .i64 1024, .int .u64 0,
  .sl 2 [[.int .i64 0, .str ⟨#[98, 117, 115, 98, 97, 114]⟩], [.int .i64 1, .str ⟨#[98, 49]⟩], [.int .i64 2, .str ⟨#[49, 46, 48]⟩]] (some [])]

/-- The heap: the engine's, the book's and the sessions' maps turn. -/
def H (m18 m20 m22 : HB) : List HB := [.blk ⟨3, [[.int .u64 18446744073709551615, .int .i64 0, .sl 3 [] (some [])]], true, false⟩,
  .blk ⟨5, [[.pt (.h 0) 0 0 0, .int .i64 0, .int .i64 1, .int .i64 1, .sl 4 [] (some [])]], true, false⟩,
  .blk ⟨2, [[.int .i64 1, .sl 2 [] (some [])]], true, false⟩,
  .blk ⟨3, [[.pt (.h 1) 0 0 0, .pt (.h 2) 0 0 0, .sl 5 [] (some [])]], true, false⟩,
  .map [] 0,
  .blk ⟨4, [[.int .u64 18446744073709551615, .int .i64 0, .int .i64 0, .map 4]], true, false⟩,
  .map [] 0,
  .blk ⟨5, [[.pt (.h 5) 0 0 0, .int .i64 0, .int .i64 1, .int .i64 1, .map 6]], true, false⟩,
  .map [] 0,
  .blk ⟨2, [[.int .i64 1, .map 8]], true, false⟩,
  .map [] 0,
  .blk ⟨4, [[.pt (.h 7) 0 0 0, .int .i64 1, .pt (.h 9) 0 0 0, .map 10]], true, false⟩,
  .blk ⟨3, [[.int .u64 0, .int .i64 100000, .sl 3 [] (some [])]], true, false⟩,
  .blk ⟨5, [[.pt (.h 12) 0 0 0, .int .i64 8, .int .i64 500, .int .i64 2000, .sl 4 [] (some [])]], true, false⟩,
  .blk ⟨2, [[.int .i64 1000, .sl 2 [] (some [])]], true, false⟩,
  .blk ⟨3, [[.pt (.h 13) 0 0 0, .pt (.h 14) 0 0 0, .sl 5 [] (some [])]], true, false⟩,
  .map [] 0,
  .blk ⟨4, [[.int .u64 0, .int .i64 0, .int .i64 100000, .map 16]], true, false⟩,
  m18,
  .blk ⟨5, [[.pt (.h 17) 0 0 0, .int .i64 8, .int .i64 500, .int .i64 2000, .map 18]], true, false⟩,
  m20,
  .blk ⟨2, [[.int .i64 1000, .map 20]], true, false⟩,
  m22,
  .blk ⟨4, [[.pt (.h 19) 0 0 0, .int .i64 1000, .pt (.h 21) 0 0 0, .map 22]], true, false⟩]

def vw (b c : Nat) : HB := .map [⟨.int .i64 5, .agg [.int .u64 0, .sl 3 [] (some []), .sl 3 [] (some [])], b⟩] c
def lf (b c : Nat) : HB := .map [⟨.int .i64 5, .int .i64 1000, b⟩] c
def se (st r : Int) (b c : Nat) : HB := .map [⟨.int .i64 5, .agg [.int .i64 st, .int .i64 r, .int .i64 0, .int .u64 0], b⟩] c

def ask6 (v : Int) : List AV := [.int .i64 6, .int .i64 100, .int .i64 0, .int .u16 v, .int .u16 0, .int .u16 0, .sl 1 [] (some []), .sl 1 [] (some []), .int .i64 0, .int .i64 0, .int .i64 0, .int .i64 0]

def ask16 (v : Int) : List AV := [.int .i64 16, .int .i64 100, .int .i64 1, .int .u16 0, .int .u16 0, .int .u16 0, .sl 1 [] (some []), .sl 1 [[.int .u16 v]] (some []), .int .i64 0, .int .i64 0, .int .i64 0, .int .i64 0]
def askL (w : Bool) (v : Int) : List AV := if w then ask16 v else ask6 v
def fnOf (w : Bool) : Int := if w then 16 else 6
/-- A reply: an exception, or the request's own. -/
def tl (fn exc at_ n v : Int) : List AV := [.int .i64 fn, .int .i64 exc, .sl 1 [] (some []), .sl 1 [] (some []), .int .i64 at_, .int .i64 n, .int .u16 v, .int .u16 0, .int .u16 0, .int .i64 0, .int .i64 0, .bool false, .int .i64 0, .sl 2 [] (some [])]
def okL (w : Bool) (v : Int) : List AV := if w then tl 16 0 100 1 0 else tl 6 0 100 0 v
def exL (w : Bool) (e : Int) : List AV := tl (fnOf w) e 0 0 0
abbrev go (f : FuncId) (args : List AV) (h : List HB) := (lvl F S0 100).1 false f args h
def doA (w : Bool) (v : Int) : List AV := [.pt (.h 23) 0 0 0, .agg cfgL, .int .i64 5, .agg (askL w v)]
theorem do_a0f (c1 c2 : Nat) : go 21 (doA false 0) (H (.map [] c1) (.map [] c2) (.map [] 0)) = some (.agg (exL false 3), (H (.map [] c1) (.map [] c2) (.map [] 0))) := by kernel_rfl
theorem do_a0t (c1 c2 : Nat) : go 21 (doA true 0) (H (.map [] c1) (.map [] c2) (.map [] 0)) = some (.agg (exL true 3), (H (.map [] c1) (.map [] c2) (.map [] 0))) := by kernel_rfl
theorem do_a1f (c1 c2 : Nat) : go 21 (doA false 1) (H (.map [] c1) (.map [] c2) (.map [] 0)) = some (.agg (okL false 1), (H (vw c1 (c1 + 1)) (lf c2 (c2 + 1)) (se 1 0 0 1))) := by kernel_rfl
theorem do_a1t (c1 c2 : Nat) : go 21 (doA true 1) (H (.map [] c1) (.map [] c2) (.map [] 0)) = some (.agg (okL true 1), (H (vw c1 (c1 + 1)) (lf c2 (c2 + 1)) (se 1 0 0 1))) := by kernel_rfl
theorem do_a2f (c1 c2 : Nat) : go 21 (doA false 2) (H (.map [] c1) (.map [] c2) (.map [] 0)) = some (.agg (exL false 4), (H (.map [] c1) (.map [] c2) (.map [] 0))) := by kernel_rfl
theorem do_a2t (c1 c2 : Nat) : go 21 (doA true 2) (H (.map [] c1) (.map [] c2) (.map [] 0)) = some (.agg (exL true 4), (H (.map [] c1) (.map [] c2) (.map [] 0))) := by kernel_rfl
theorem do_a3f (c1 c2 : Nat) : go 21 (doA false 3) (H (.map [] c1) (.map [] c2) (.map [] 0)) = some (.agg (exL false 4), (H (.map [] c1) (.map [] c2) (.map [] 0))) := by kernel_rfl
theorem do_a3t (c1 c2 : Nat) : go 21 (doA true 3) (H (.map [] c1) (.map [] c2) (.map [] 0)) = some (.agg (exL true 4), (H (.map [] c1) (.map [] c2) (.map [] 0))) := by kernel_rfl
theorem do_a4f (c1 c2 : Nat) : go 21 (doA false 4) (H (.map [] c1) (.map [] c2) (.map [] 0)) = some (.agg (exL false 3), (H (.map [] c1) (.map [] c2) (.map [] 0))) := by kernel_rfl
theorem do_a4t (c1 c2 : Nat) : go 21 (doA true 4) (H (.map [] c1) (.map [] c2) (.map [] 0)) = some (.agg (exL true 3), (H (.map [] c1) (.map [] c2) (.map [] 0))) := by kernel_rfl
theorem do_a5f (c1 c2 : Nat) : go 21 (doA false 5) (H (.map [] c1) (.map [] c2) (.map [] 0)) = some (.agg (exL false 3), (H (.map [] c1) (.map [] c2) (.map [] 0))) := by kernel_rfl
theorem do_a5t (c1 c2 : Nat) : go 21 (doA true 5) (H (.map [] c1) (.map [] c2) (.map [] 0)) = some (.agg (exL true 3), (H (.map [] c1) (.map [] c2) (.map [] 0))) := by kernel_rfl
theorem do_b0f (c1 c2 b3 c3 : Nat) (r : Int) : go 21 (doA false 0) (H (.map [] c1) (.map [] c2) (se 0 r b3 c3)) = some (.agg (exL false 3), (H (.map [] c1) (.map [] c2) (se 0 r b3 c3))) := by kernel_rfl
theorem do_b0t (c1 c2 b3 c3 : Nat) (r : Int) : go 21 (doA true 0) (H (.map [] c1) (.map [] c2) (se 0 r b3 c3)) = some (.agg (exL true 3), (H (.map [] c1) (.map [] c2) (se 0 r b3 c3))) := by kernel_rfl
theorem do_b1f (c1 c2 b3 c3 : Nat) (r : Int) : go 21 (doA false 1) (H (.map [] c1) (.map [] c2) (se 0 r b3 c3)) = some (.agg (okL false 1), (H (vw c1 (c1 + 1)) (lf c2 (c2 + 1)) (se 1 0 b3 c3))) := by kernel_rfl
theorem do_b1t (c1 c2 b3 c3 : Nat) (r : Int) : go 21 (doA true 1) (H (.map [] c1) (.map [] c2) (se 0 r b3 c3)) = some (.agg (okL true 1), (H (vw c1 (c1 + 1)) (lf c2 (c2 + 1)) (se 1 0 b3 c3))) := by kernel_rfl
theorem do_b2f (c1 c2 b3 c3 : Nat) (r : Int) : go 21 (doA false 2) (H (.map [] c1) (.map [] c2) (se 0 r b3 c3)) = some (.agg (exL false 4), (H (.map [] c1) (.map [] c2) (se 0 r b3 c3))) := by kernel_rfl
theorem do_b2t (c1 c2 b3 c3 : Nat) (r : Int) : go 21 (doA true 2) (H (.map [] c1) (.map [] c2) (se 0 r b3 c3)) = some (.agg (exL true 4), (H (.map [] c1) (.map [] c2) (se 0 r b3 c3))) := by kernel_rfl
theorem do_b3f (c1 c2 b3 c3 : Nat) (r : Int) : go 21 (doA false 3) (H (.map [] c1) (.map [] c2) (se 0 r b3 c3)) = some (.agg (exL false 4), (H (.map [] c1) (.map [] c2) (se 0 r b3 c3))) := by kernel_rfl
theorem do_b3t (c1 c2 b3 c3 : Nat) (r : Int) : go 21 (doA true 3) (H (.map [] c1) (.map [] c2) (se 0 r b3 c3)) = some (.agg (exL true 4), (H (.map [] c1) (.map [] c2) (se 0 r b3 c3))) := by kernel_rfl
theorem do_b4f (c1 c2 b3 c3 : Nat) (r : Int) : go 21 (doA false 4) (H (.map [] c1) (.map [] c2) (se 0 r b3 c3)) = some (.agg (exL false 3), (H (.map [] c1) (.map [] c2) (se 0 r b3 c3))) := by kernel_rfl
theorem do_b4t (c1 c2 b3 c3 : Nat) (r : Int) : go 21 (doA true 4) (H (.map [] c1) (.map [] c2) (se 0 r b3 c3)) = some (.agg (exL true 3), (H (.map [] c1) (.map [] c2) (se 0 r b3 c3))) := by kernel_rfl
theorem do_b5f (c1 c2 b3 c3 : Nat) (r : Int) : go 21 (doA false 5) (H (.map [] c1) (.map [] c2) (se 0 r b3 c3)) = some (.agg (exL false 3), (H (.map [] c1) (.map [] c2) (se 0 r b3 c3))) := by kernel_rfl
theorem do_b5t (c1 c2 b3 c3 : Nat) (r : Int) : go 21 (doA true 5) (H (.map [] c1) (.map [] c2) (se 0 r b3 c3)) = some (.agg (exL true 3), (H (.map [] c1) (.map [] c2) (se 0 r b3 c3))) := by kernel_rfl
theorem do_o0f (b1 c1 b2 c2 b3 c3 : Nat) : go 21 (doA false 0) (H (vw b1 c1) (lf b2 c2) (se 1 0 b3 c3)) = some (.agg (exL false 3), (H (vw b1 c1) (lf b2 c2) (se 1 0 b3 c3))) := by kernel_rfl
theorem do_o0t (b1 c1 b2 c2 b3 c3 : Nat) : go 21 (doA true 0) (H (vw b1 c1) (lf b2 c2) (se 1 0 b3 c3)) = some (.agg (exL true 3), (H (vw b1 c1) (lf b2 c2) (se 1 0 b3 c3))) := by kernel_rfl
theorem do_o1f (b1 c1 b2 c2 b3 c3 : Nat) : go 21 (doA false 1) (H (vw b1 c1) (lf b2 c2) (se 1 0 b3 c3)) = some (.agg (exL false 4), (H (vw b1 c1) (lf b2 c2) (se 1 0 b3 c3))) := by kernel_rfl
theorem do_o1t (b1 c1 b2 c2 b3 c3 : Nat) : go 21 (doA true 1) (H (vw b1 c1) (lf b2 c2) (se 1 0 b3 c3)) = some (.agg (exL true 4), (H (vw b1 c1) (lf b2 c2) (se 1 0 b3 c3))) := by kernel_rfl
theorem do_o2f (b1 c1 b2 c2 b3 c3 : Nat) : go 21 (doA false 2) (H (vw b1 c1) (lf b2 c2) (se 1 0 b3 c3)) = some (.agg (okL false 2), (H (.map [] c1) (.map [] c2) (se 0 0 b3 c3))) := by kernel_rfl
theorem do_o2t (b1 c1 b2 c2 b3 c3 : Nat) : go 21 (doA true 2) (H (vw b1 c1) (lf b2 c2) (se 1 0 b3 c3)) = some (.agg (okL true 2), (H (.map [] c1) (.map [] c2) (se 0 0 b3 c3))) := by kernel_rfl
theorem do_o3f (b1 c1 b2 c2 b3 c3 : Nat) : go 21 (doA false 3) (H (vw b1 c1) (lf b2 c2) (se 1 0 b3 c3)) = some (.agg (okL false 3), (H (.map [] c1) (.map [] c2) (se 0 1 b3 c3))) := by kernel_rfl
theorem do_o3t (b1 c1 b2 c2 b3 c3 : Nat) : go 21 (doA true 3) (H (vw b1 c1) (lf b2 c2) (se 1 0 b3 c3)) = some (.agg (okL true 3), (H (.map [] c1) (.map [] c2) (se 0 1 b3 c3))) := by kernel_rfl
theorem do_o4f (b1 c1 b2 c2 b3 c3 : Nat) : go 21 (doA false 4) (H (vw b1 c1) (lf b2 c2) (se 1 0 b3 c3)) = some (.agg (exL false 3), (H (vw b1 c1) (lf b2 c2) (se 1 0 b3 c3))) := by kernel_rfl
theorem do_o4t (b1 c1 b2 c2 b3 c3 : Nat) : go 21 (doA true 4) (H (vw b1 c1) (lf b2 c2) (se 1 0 b3 c3)) = some (.agg (exL true 3), (H (vw b1 c1) (lf b2 c2) (se 1 0 b3 c3))) := by kernel_rfl
theorem do_o5f (b1 c1 b2 c2 b3 c3 : Nat) : go 21 (doA false 5) (H (vw b1 c1) (lf b2 c2) (se 1 0 b3 c3)) = some (.agg (exL false 3), (H (vw b1 c1) (lf b2 c2) (se 1 0 b3 c3))) := by kernel_rfl
theorem do_o5t (b1 c1 b2 c2 b3 c3 : Nat) : go 21 (doA true 5) (H (vw b1 c1) (lf b2 c2) (se 1 0 b3 c3)) = some (.agg (exL true 3), (H (vw b1 c1) (lf b2 c2) (se 1 0 b3 c3))) := by kernel_rfl
end Go.Proofs.Bb.Oo
