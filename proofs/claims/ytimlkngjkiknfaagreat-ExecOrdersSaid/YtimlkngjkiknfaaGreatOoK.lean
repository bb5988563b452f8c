/- The compact code is checked against the program. -/
import Derived.Test.YtimlkngjkiknfaaGreatOoC
import Derived.Test.YtimlkngjkiknfaaGreatBbLim
import Derived.Test.YtimlkngjkiknfaaGreatChecked
import Derived.KernelRfl
set_option maxRecDepth 100000
namespace Go.Proofs.Bb.Oo
open Go Go.Proofs
theorem k3 : chkF Tryz.prog 3 c3 = true := by kernel_rfl
theorem k15 : chkF Tryz.prog 15 c15 = true := by kernel_rfl
theorem k16 : chkF Tryz.prog 16 c16 = true := by kernel_rfl
theorem k17 : chkF Tryz.prog 17 c17 = true := by kernel_rfl
theorem k18 : chkF Tryz.prog 18 c18 = true := by kernel_rfl
theorem k19 : chkF Tryz.prog 19 c19 = true := by kernel_rfl
theorem k20 : chkF Tryz.prog 20 c20 = true := by kernel_rfl
theorem k21 : chkF Tryz.prog 21 c21 = true := by kernel_rfl
theorem k22 : chkF Tryz.prog 22 c22 = true := by kernel_rfl
theorem k23 : chkF Tryz.prog 23 c23 = true := by kernel_rfl
theorem k24 : chkF Tryz.prog 24 c24 = true := by kernel_rfl
theorem k25 : chkF Tryz.prog 25 c25 = true := by kernel_rfl
theorem k26 : chkF Tryz.prog 26 c26 = true := by kernel_rfl
theorem k27 : chkF Tryz.prog 27 c27 = true := by kernel_rfl
theorem k28 : chkF Tryz.prog 28 c28 = true := by kernel_rfl
theorem k65 : chkF Tryz.prog 65 c65 = true := by kernel_rfl
theorem k66 : chkF Tryz.prog 66 c66 = true := by kernel_rfl
theorem k67 : chkF Tryz.prog 67 c67 = true := by kernel_rfl
theorem k68 : chkF Tryz.prog 68 c68 = true := by kernel_rfl
theorem k69 : chkF Tryz.prog 69 c69 = true := by kernel_rfl
theorem k70 : chkF Tryz.prog 70 c70 = true := by kernel_rfl
theorem k71 : chkF Tryz.prog 71 c71 = true := by kernel_rfl
theorem k72 : chkF Tryz.prog 72 c72 = true := by kernel_rfl
theorem k74 : chkF Tryz.prog 74 c74 = true := by kernel_rfl
theorem k75 : chkF Tryz.prog 75 c75 = true := by kernel_rfl
theorem k76 : chkF Tryz.prog 76 c76 = true := by kernel_rfl
theorem k77 : chkF Tryz.prog 77 c77 = true := by kernel_rfl
theorem k78 : chkF Tryz.prog 78 c78 = true := by kernel_rfl
theorem k81 : chkF Tryz.prog 81 c81 = true := by kernel_rfl
theorem k82 : chkF Tryz.prog 82 c82 = true := by kernel_rfl
theorem k84 : chkF Tryz.prog 84 c84 = true := by kernel_rfl
theorem k85 : chkF Tryz.prog 85 c85 = true := by kernel_rfl
theorem k86 : chkF Tryz.prog 86 c86 = true := by kernel_rfl
theorem k87 : chkF Tryz.prog 87 c87 = true := by kernel_rfl
theorem k88 : chkF Tryz.prog 88 c88 = true := by kernel_rfl
theorem k92 : chkF Tryz.prog 92 c92 = true := by kernel_rfl
theorem k93 : chkF Tryz.prog 93 c93 = true := by kernel_rfl
theorem k140 : chkF Tryz.prog 140 c140 = true := by kernel_rfl
theorem k141 : chkF Tryz.prog 141 c141 = true := by kernel_rfl
theorem k142 : chkF Tryz.prog 142 c142 = true := by kernel_rfl
theorem k143 : chkF Tryz.prog 143 c143 = true := by kernel_rfl
theorem k144 : chkF Tryz.prog 144 c144 = true := by kernel_rfl
theorem k145 : chkF Tryz.prog 145 c145 = true := by kernel_rfl
theorem k146 : chkF Tryz.prog 146 c146 = true := by kernel_rfl
theorem k147 : chkF Tryz.prog 147 c147 = true := by kernel_rfl
theorem k149 : chkF Tryz.prog 149 c149 = true := by kernel_rfl
theorem k150 : chkF Tryz.prog 150 c150 = true := by kernel_rfl
theorem k151 : chkF Tryz.prog 151 c151 = true := by kernel_rfl
theorem k152 : chkF Tryz.prog 152 c152 = true := by kernel_rfl
theorem k153 : chkF Tryz.prog 153 c153 = true := by kernel_rfl
theorem k156 : chkF Tryz.prog 156 c156 = true := by kernel_rfl
theorem k159 : chkF Tryz.prog 159 c159 = true := by kernel_rfl
theorem k160 : chkF Tryz.prog 160 c160 = true := by kernel_rfl
theorem k161 : chkF Tryz.prog 161 c161 = true := by kernel_rfl
theorem k165 : chkF Tryz.prog 165 c165 = true := by kernel_rfl
theorem k166 : chkF Tryz.prog 166 c166 = true := by kernel_rfl
theorem k167 : chkF Tryz.prog 167 c167 = true := by kernel_rfl
theorem k168 : chkF Tryz.prog 168 c168 = true := by kernel_rfl
theorem k170 : chkF Tryz.prog 170 c170 = true := by kernel_rfl
theorem k190 : chkF Tryz.prog 190 c190 = true := by kernel_rfl
theorem k191 : chkF Tryz.prog 191 c191 = true := by kernel_rfl
theorem k233 : chkF Tryz.prog 233 c233 = true := by kernel_rfl
theorem k236 : chkF Tryz.prog 236 c236 = true := by kernel_rfl
theorem k237 : chkF Tryz.prog 237 c237 = true := by kernel_rfl
theorem k238 : chkF Tryz.prog 238 c238 = true := by kernel_rfl
theorem k290 : chkF Tryz.prog 290 c290 = true := by kernel_rfl
theorem k291 : chkF Tryz.prog 291 c291 = true := by kernel_rfl
theorem k292 : chkF Tryz.prog 292 c292 = true := by kernel_rfl
theorem chkd : ∀ p, p ∈ codes → chkF Tryz.prog p.1 p.2 = true := by
  intro p hp
  simp only [codes, List.mem_cons, List.not_mem_nil, or_false] at hp
  rcases hp with rfl | rfl | rfl | rfl | rfl | rfl | rfl | rfl | rfl | rfl | rfl | rfl | rfl | rfl | rfl | rfl | rfl | rfl | rfl | rfl | rfl | rfl | rfl | rfl | rfl | rfl | rfl | rfl | rfl | rfl | rfl | rfl | rfl | rfl | rfl | rfl | rfl | rfl | rfl | rfl | rfl | rfl | rfl | rfl | rfl | rfl | rfl | rfl | rfl | rfl | rfl | rfl | rfl | rfl | rfl | rfl | rfl | rfl | rfl | rfl | rfl | rfl | rfl | rfl | rfl | rfl | rfl | rfl
  · exact k3
  · exact k15
  · exact k16
  · exact k17
  · exact k18
  · exact k19
  · exact k20
  · exact k21
  · exact k22
  · exact k23
  · exact k24
  · exact k25
  · exact k26
  · exact k27
  · exact k28
  · exact k65
  · exact k66
  · exact k67
  · exact k68
  · exact k69
  · exact k70
  · exact k71
  · exact k72
  · exact k74
  · exact k75
  · exact k76
  · exact k77
  · exact k78
  · exact k81
  · exact k82
  · exact k84
  · exact k85
  · exact k86
  · exact k87
  · exact k88
  · exact k92
  · exact k93
  · exact k140
  · exact k141
  · exact k142
  · exact k143
  · exact k144
  · exact k145
  · exact k146
  · exact k147
  · exact k149
  · exact k150
  · exact k151
  · exact k152
  · exact k153
  · exact k156
  · exact k159
  · exact k160
  · exact k161
  · exact k165
  · exact k166
  · exact k167
  · exact k168
  · exact k170
  · exact k190
  · exact k191
  · exact k233
  · exact k236
  · exact k237
  · exact k238
  · exact k290
  · exact k291
  · exact k292
theorem chkF_all (f : FuncId) (fn : AFn) (h : F f = some fn) : chkF Tryz.prog f fn = true := by
  unfold F at h
  simp only [Option.map_eq_some_iff] at h
  obtain ⟨p, hp, rfl⟩ := h
  have h1 := List.mem_of_find?_eq_some hp
  have h2 := List.find?_some hp
  simp only [beq_iff_eq] at h2
  rw [← h2]
  exact chkd p h1
theorem mixed : Tryz.prog.follows .mixedOrders = true := by kernel_rfl
end Go.Proofs.Bb.Oo
