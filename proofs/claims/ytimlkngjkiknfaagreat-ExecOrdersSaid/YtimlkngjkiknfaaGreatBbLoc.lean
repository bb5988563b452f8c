/- What an instruction looks at, and what it turns. -/
import Derived.Test.YtimlkngjkiknfaaGreatBbStep
set_option linter.unusedSimpArgs false
set_option linter.unusedVariables false
namespace Go.Proofs.Bb
open Go

inductive Sl where
  | no
  | one (n : Nat)
  | all
  deriving DecidableEq
def Sl.has : Sl → Nat → Bool
  | .no, _ => false
  | .one m, n => m == n
  | .all, _ => true

/-- What of the state is read, and what is written. -/
structure Ft where
  rv : Sl := .no
  wv : Sl := .no
  ra : Bool := false
  wa : Bool := false
  rh : Bool := false
  wh : Bool := false

def vSl (w : Nat) : Sl := if w = 0 then .all else .one (w - 3)
def mdFt (aa : Bool) : Mode → Ft
  | .rw => { wa := aa, wh := true }
  | _ => { wa := aa, rh := true }

def ft (d : Nat) : I → Ft
  | .allocv _ | .boxv _ _ => { wv := .one d }
  | .alloch _ | .mkmap _ | .ment _ _ _ _ _ | .del _ _ _ _ => { wh := true }
  | .boxh _ _ _ | .mupd _ _ _ _ _ _ | .est _ _ _ _ => { wh := true, wa := true }
  | .load w _ _ => if w = 1 then { ra := true } else if w = 2 then { rh := true } else { rv := vSl w }
  | .store w _ _ _ _ => if w = 1 then { wa := true } else if w = 2 then { wa := true, wh := true } else { wv := vSl w }
  | .s2b _ | .mksl _ _ _ _ | .apps _ _ | .appz _ _ _ _ | .clr _ _ _ => { wa := true }
  | .b2s w _ => if w = 2 then {} else if w = 1 then { ra := true, rh := true } else { ra := true }
  | .mkfn _ a b => if a.isEmpty && b.isEmpty then {} else { wv := .all }
  | .slicearr _ _ _ _ _ => { wv := .all }
  | .lookup _ _ _ _ _ _ | .lenm _ => { rh := true }
  | .app hh _ _ _ | .cpy hh _ _ _ => { wa := true, wh := hh }
  | .call md aa _ _ | .callv md aa _ _ => mdFt aa md
  | _ => {}

def Ft.tv (F : Ft) (n : Nat) : Bool := F.rv.has n || F.wv.has n
def Ft.ta (F : Ft) : Bool := F.ra || F.wa
def Ft.th (F : Ft) : Bool := F.rh || F.wh

structure Agree (F : Ft) (s s' : St) : Prop where
  v : ∀ n, F.tv n = true → s.v n = s'.v n
  a : F.ta = true → s.a = s'.a
  h : F.th = true → s.h = s'.h
  ro : s.ro = s'.ro

def mix (F : Ft) (s1 s' : St) : St := ⟨s'.t, fun n => if F.wv.has n then s1.v n else s'.v n, if F.wa then s1.a else s'.a, if F.wh then s1.h else s'.h, s'.ro⟩

theorem mix_no (s1 s' : St) : mix {} s1 s' = s' := rfl
theorem mix_r {F : Ft} (s1 s' : St) (h1 : F.wv = .no) (h2 : F.wa = false) (h3 : F.wh = false) : mix F s1 s' = s' := by
  simp [mix, h1, h2, h3, Sl.has]

theorem getB_a {s s' : St} (h : s.a = s'.a) (i g : Nat) : s'.getB (.a i) g = s.getB (.a i) g := by simp [St.getB, h]
theorem getB_h {s s' : St} (h : s.h = s'.h) (i g : Nat) : s'.getB (.h i) g = s.getB (.h i) g := by simp [St.getB, h]
theorem getB_v {s s' : St} {i : Nat} (h : s.v i = s'.v i) (g : Nat) : s'.getB (.v i) g = s.getB (.v i) g := by simp [St.getB, h]

section
variable {C : Orc} {d : Nat} {s s' : St} {v : AV} {s1 : St}

theorem pure_local {i : I} (hF : ft d i = {}) (hx : ∀ x, x ∈ i.xs → ev s'.t x = ev s.t x) (hp : match i with
    | .mv _ | .pick _ _ _ | .nilc _ | .bin _ _ _ | .eqv _ _ _ _ _ | .eqn _ _ _ _ | .not _ | .convi _ _ | .build _ _ | .bsl _ _ _ _ | .slice _ _ _ _ _ | .slicestr _ _ _ | .faddr _ _ | .fld _ _ _ | .iaddr _ _ _ | .iaddra _ _ _ _
    | .idx _ _ _ _ _ | .idxs _ _ | .ext _ _ | .len _ | .lens _ | .lena _ | .cap _ | .max _ | .min _ | .bad => True
    | _ => False) (h : step C s.ro d s i = some (v, s1)) : step C s'.ro d s' i = some (v, s') ∧ s1 = s := by
  cases i <;> simp only [I.xs] at hx <;> try exact hp.elim
  case mv x => simp [step, hx] at h ⊢; exact ⟨h.1, h.2.symm⟩
  case pick c x y =>
    have e1 := hx c (by simp); have e2 := hx x (by simp); have e3 := hx y (by simp)
    simp only [step, e1, e2, e3] at h ⊢
    split at h
    · rename_i hE
      simp only [Option.some.injEq, Prod.mk.injEq] at h; obtain ⟨rfl, rfl⟩ := h
      exact ⟨rfl, rfl⟩
    · cases h
  case build zero parts =>
    have e : (parts.map fun (o, n, x) => (o, n, ev s'.t x)) = (parts.map fun (o, n, x) => (o, n, ev s.t x)) := List.map_congr_left (fun p hp => by simp only [hx p.2.2 (List.mem_map.2 ⟨p, hp, rfl⟩)])
    simp only [step, e] at h ⊢
    split at h <;> simp_all
  case bsl z zero n parts =>
    have e : (parts.map fun (o, x) => (o, ev s'.t x)) = (parts.map fun (o, x) => (o, ev s.t x)) := List.map_congr_left (fun p hp => by simp only [hx p.2 (List.mem_map.2 ⟨p, hp, rfl⟩)])
    have e2 : (parts.all fun (_, x) => clean0 (ev s'.t x)) = (parts.all fun (_, x) => clean0 (ev s.t x)) := by
      rw [Bool.eq_iff_iff, List.all_eq_true, List.all_eq_true]
      constructor
      · intro h p hp; have := h p hp; simp only [hx p.2 (List.mem_map.2 ⟨p, hp, rfl⟩)] at this; exact this
      · intro h p hp; have := h p hp; simp only [hx p.2 (List.mem_map.2 ⟨p, hp, rfl⟩)]; exact this
    simp only [step, e, e2] at h ⊢
    split at h
    · rename_i hc
      rw [if_pos hc]
      split at h
      · simp only [Option.some.injEq, Prod.mk.injEq] at h; obtain ⟨rfl, rfl⟩ := h
        exact ⟨rfl, rfl⟩
      · cases h
    · cases h
  case nilc x =>
    simp only [step, hx x (by simp)] at h ⊢
    split at h <;> simp_all
  case bin op x y =>
    simp only [step, hx x (by simp), hx y (by simp)] at h ⊢
    simp only [Option.map_eq_some_iff, Prod.mk.injEq] at h; obtain ⟨u, hu, rfl, rfl⟩ := h
    exact ⟨by rw [hu]; rfl, rfl⟩
  case eqv ng ag ks x y =>
    simp only [step, hx x (by simp), hx y (by simp)] at h ⊢
    simp only [Option.map_eq_some_iff, Prod.mk.injEq] at h; obtain ⟨u, hu, rfl, rfl⟩ := h
    exact ⟨by rw [hu]; rfl, rfl⟩
  case eqn ng fn x y =>
    simp only [step, hx x (by simp), hx y (by simp)] at h ⊢
    simp only [Option.map_eq_some_iff, Prod.mk.injEq] at h; obtain ⟨u, hu, rfl, rfl⟩ := h
    exact ⟨by rw [hu]; rfl, rfl⟩
  case not x =>
    simp only [step, hx x (by simp)] at h ⊢
    split at h <;> simp_all
  case convi k x =>
    simp only [step, hx x (by simp)] at h ⊢
    split at h <;> simp_all
  case slice z x lo hi mx =>
    have e1 : evO s'.t lo = evO s.t lo := by
      cases lo with
      | none => rfl
      | some y => exact congrArg some (hx y (by simp))
    have e2 : evO s'.t hi = evO s.t hi := by
      cases hi with
      | none => rfl
      | some y => exact congrArg some (hx y (by simp))
    have e3 : evO s'.t mx = evO s.t mx := by
      cases mx with
      | none => rfl
      | some y => exact congrArg some (hx y (by simp))
    simp only [step, hx x (by simp), e1, e2, e3] at h ⊢
    split at h
    · split at h
      · split at h
        · split at h <;> simp_all
        · split at h <;> simp_all
      · simp_all
    · split at h
      · split at h <;> simp_all
      · simp_all
    · simp_all
  case slicestr x lo hi =>
    have e1 : evO s'.t lo = evO s.t lo := by
      cases lo with
      | none => rfl
      | some y => exact congrArg some (hx y (by simp))
    have e2 : evO s'.t hi = evO s.t hi := by
      cases hi with
      | none => rfl
      | some y => exact congrArg some (hx y (by simp))
    simp only [step, hx x (by simp), e1, e2] at h ⊢
    split at h
    · split at h <;> simp_all
    · simp_all
  case faddr x off =>
    simp only [step, hx x (by simp)] at h ⊢
    split at h <;> simp_all
  case fld x off n =>
    simp only [step, hx x (by simp)] at h ⊢
    split at h
    · rename_i hE
      simp only [Option.map_eq_some_iff, Prod.mk.injEq] at h; obtain ⟨u, hu, rfl, rfl⟩ := h
      exact ⟨by rw [hu]; rfl, rfl⟩
    · cases h
  case iaddr z x i =>
    simp only [step, hx x (by simp), hx i (by simp)] at h ⊢
    split at h
    · split at h
      · split at h
        · split at h <;> simp_all
        · simp_all
      · split at h <;> simp_all
      · simp_all
    · simp_all
  case iaddra z n x i =>
    simp only [step, hx x (by simp), hx i (by simp)] at h ⊢
    split at h
    · split at h
      · split at h <;> simp_all
      · simp_all
    · simp_all
  case idx z n m x i =>
    simp only [step, hx x (by simp), hx i (by simp)] at h ⊢
    split at h
    · split at h
      · rename_i hc
        rw [if_pos hc]
        simp only [Option.map_eq_some_iff, Prod.mk.injEq] at h; obtain ⟨u, hu, rfl, rfl⟩ := h
        exact ⟨by rw [hu]; rfl, rfl⟩
      · cases h
    · cases h
  case idxs x i =>
    simp only [step, hx x (by simp), hx i (by simp)] at h ⊢
    split at h
    · split at h
      · split at h <;> simp_all
      · simp_all
    · simp_all
  case ext x i =>
    simp only [step, hx x (by simp)] at h ⊢
    split at h
    · rename_i hE
      simp only [Option.map_eq_some_iff, Prod.mk.injEq] at h; obtain ⟨u, hu, rfl, rfl⟩ := h
      exact ⟨by rw [hu]; rfl, rfl⟩
    · cases h
  case len x =>
    simp only [step, hx x (by simp)] at h ⊢
    split at h <;> simp_all
  case lens x =>
    simp only [step, hx x (by simp)] at h ⊢
    split at h <;> simp_all
  case lena n => simp only [step] at h ⊢; simp_all
  case cap x =>
    simp only [step, hx x (by simp)] at h ⊢
    split at h <;> simp_all
  case max xs =>
    have e : evL s'.t xs = evL s.t xs := List.map_congr_left hx
    simp only [step, e] at h ⊢
    simp only [Option.map_eq_some_iff, Prod.mk.injEq] at h; obtain ⟨u, hu, rfl, rfl⟩ := h
    exact ⟨by rw [hu]; rfl, rfl⟩
  case min xs =>
    have e : evL s'.t xs = evL s.t xs := List.map_congr_left hx
    simp only [step, e] at h ⊢
    simp only [Option.map_eq_some_iff, Prod.mk.injEq] at h; obtain ⟨u, hu, rfl, rfl⟩ := h
    exact ⟨by rw [hu]; rfl, rfl⟩
  case bad => cases h
end
end Go.Proofs.Bb
