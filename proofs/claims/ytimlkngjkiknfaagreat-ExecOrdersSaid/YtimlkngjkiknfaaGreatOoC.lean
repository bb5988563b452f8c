/- The functions' compact code, in one list. -/
import Derived.Test.YtimlkngjkiknfaaGreatOoC0
import Derived.Test.YtimlkngjkiknfaaGreatOoC1
namespace Go.Proofs.Bb.Oo
open Go
def codes : List (FuncId × AFn) := [(3, c3), (15, c15), (16, c16), (17, c17), (18, c18), (19, c19), (20, c20), (21, c21), (22, c22), (23, c23), (24, c24), (25, c25), (26, c26), (27, c27), (28, c28), (65, c65), (66, c66), (67, c67), (68, c68), (69, c69), (70, c70), (71, c71), (72, c72), (74, c74), (75, c75), (76, c76), (77, c77), (78, c78), (81, c81), (82, c82), (84, c84), (85, c85), (86, c86), (87, c87), (88, c88), (92, c92), (93, c93), (140, c140), (141, c141), (142, c142), (143, c143), (144, c144), (145, c145), (146, c146), (147, c147), (149, c149), (150, c150), (151, c151), (152, c152), (153, c153), (156, c156), (159, c159), (160, c160), (161, c161), (165, c165), (166, c166), (167, c167), (168, c168), (170, c170), (190, c190), (191, c191), (233, c233), (236, c236), (237, c237), (238, c238), (290, c290), (291, c291), (292, c292)]
def F (f : FuncId) : Option AFn := (codes.find? (fun p => p.1 == f)).map (·.2)
end Go.Proofs.Bb.Oo
