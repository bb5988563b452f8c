/- How the abstract machine's values and memory stand to Go's: the relation, and that it is kept. -/
import Derived.Test.YtimlkngjkiknfaaGreatBbCore
import Derived.Below
import Derived.Laws.World
import Derived.Laws.Sem
namespace Go.Proofs.Bb
open Go

def cel (w : World) (r p : Nat) : Option Value := w.cell? ⟨r, p, none⟩
def Room (w : World) (r n : Nat) : Prop := (∃ c e f, w.heap[r]? = some (.cells c e f)) ∧ ∀ p, p < n → (cel w r p).isSome = true ∧ w.frozen? ⟨r, p, none⟩ = false

def cellA (els : List (List AV)) (j q : Nat) : Option AV := (els[j]?).bind fun cs => cs[q]?

structure BI where
  z : Nat
  ex : Bool
  n : Nat

structure Sg where
  g : Loc → Nat
  b : Loc → Option BI
  hl : Nat

def Blk.bi (b : Blk) : BI := ⟨b.z, b.ex, b.els.length⟩

def St.gen (s : St) : Loc → Nat
  | .v i => (s.v i).g
  | .a i => (s.a i).g
  | .h _ => 0
def St.cur (s : St) : Loc → Option Blk
  | .v i => (s.v i).b
  | .a i => (s.a i).b
  | .h i => blkAt s.h[i]?
def St.sg (s : St) : Sg := ⟨s.gen, fun l => (s.cur l).map Blk.bi, s.h.length⟩

theorem getB_some {s : St} {l : Loc} {g : Nat} {b : Blk} (h : s.getB l g = some b) : s.cur l = some b ∧ s.gen l = g := by
  cases l with
  | v i => simp only [St.getB] at h; split at h <;> simp_all [St.cur, St.gen]
  | a i => simp only [St.getB] at h; split at h <;> simp_all [St.cur, St.gen]
  | h i => simp only [St.getB] at h; split at h <;> simp_all [St.cur, St.gen]

structure Cx where
  lm : Loc → Nat
  im : Nat → Prop

inductive VR (σ : Sg) (cx : Cx) (w : World) : AV → Value → Prop
  | bool (b : Bool) : VR σ cx w (.bool b) (.bool b)
  | int (k : IntKind) (n : Int) : VR σ cx w (.int k n) (.int k n)
  | str (s : ByteArray) : VR σ cx w (.str s) (.string s)
  | nilp : VR σ cx w .nilp (.pointer none)
  | nilm : VR σ cx w .nilm (.map none)
  | nilf : VR σ cx w .nilf .nilFunc
  | nili : VR σ cx w .nili .nilIface
  | sl {z : Nat} {els : List (List AV)} {tl : Option (List (List AV))} {a : Option Addr} {len cap : Nat} (r off : Nat) (fc : Nat → Nat → Value)
      (hlen : len = els.length) (hcap : len ≤ cap) (htl : ∀ t, tl = some t → cap = len + t.length)
      (ha : 0 < (els ++ tl.getD []).length → a = some ⟨r, off, none⟩ ∧ cx.im r)
      (hz : ∀ cs, cs ∈ els ++ tl.getD [] → cs.length = z)
      (hc : ∀ j q x, cellA (els ++ tl.getD []) j q = some x → cel w r (off + (j * z + q)) = some (fc j q))
      (hv : ∀ j q x, cellA (els ++ tl.getD []) j q = some x → VR σ cx w x (fc j q))
      (h1 : ∀ j q x, cellA (els ++ tl.getD []) j q = some x → (fc j q).oneCell' = true) : VR σ cx w (.sl z els tl) (.slice a len cap)
  | rs {l : Loc} {g z off len cap c : Nat} {a : Option Addr} (hlen : len ≤ cap) (hcap : cap ≤ c) (ha : 0 < c → ∃ p, a = some p) (hg : g ≤ σ.g l) (hl : ∀ i, l = .h i → i < σ.hl)
      (h : σ.g l = g → ∀ b, σ.b l = some b → b.z = z ∧ off + cap ≤ b.n ∧ (b.ex = true → c = cap) ∧
        (0 < c → a = some ⟨cx.lm l, off * z, none⟩ ∧ Room w (cx.lm l) ((off + c) * z))) : VR σ cx w (.rs l g z off len cap) (.slice a len c)
  | pt {l : Loc} {g i o : Nat} {p : Addr} (hg : g ≤ σ.g l) (hl : ∀ i, l = .h i → i < σ.hl)
      (h : σ.g l = g → ∀ b, σ.b l = some b → p = ⟨cx.lm l, i * b.z + o, none⟩) : VR σ cx w (.pt l g i o) (.pointer (some p))
  | ip {cs : List AV} {o : Nat} (r p : Nat) (fc : Nat → Value) (hr : cx.im r)
      (hc : ∀ (q : Nat) (x : AV), cs[q]? = some x → cel w r (p + q) = some (fc q))
      (hv : ∀ (q : Nat) (x : AV), cs[q]? = some x → VR σ cx w x (fc q))
      (h1 : ∀ (q : Nat) (x : AV), cs[q]? = some x → (fc q).oneCell' = true) : VR σ cx w (.ip cs o) (.pointer (some ⟨r, p + o, none⟩))
  | map {b : Nat} (h : b < σ.hl) : VR σ cx w (.map b) (.map (some (cx.lm (.h b))))
  | fn {f : FuncId} {a c : List AV} {va vc : Array Value} (ha : va.size = a.length) (hc : vc.size = c.length)
      (hva : ∀ (i : Nat) (x : AV) (v : Value), a[i]? = some x → va[i]? = some v → VR σ cx w x v)
      (hvc : ∀ (i : Nat) (x : AV) (v : Value), c[i]? = some x → vc[i]? = some v → VR σ cx w x v) : VR σ cx w (.fn f a c) (.func (.func f) va vc)
  | agg {cs : List AV} {vs : Array Value} (hs : vs.size = cs.length) (h : ∀ (i : Nat) (x : AV) (v : Value), cs[i]? = some x → vs[i]? = some v → VR σ cx w x v)
      (h1 : ∀ (i : Nat) (v : Value), vs[i]? = some v → v.oneCell' = true) : VR σ cx w (.agg cs) (.agg vs)
  | tup {cs : List AV} {vs : Array Value} (hs : vs.size = cs.length) (h : ∀ (i : Nat) (x : AV) (v : Value), cs[i]? = some x → vs[i]? = some v → VR σ cx w x v) : VR σ cx w (.tup cs) (.tuple vs)

structure Ext (σ : Sg) (cx : Cx) (w : World) (σ' : Sg) (cx' : Cx) (w' : World) : Prop where
  g : ∀ l, σ.g l ≤ σ'.g l
  hl : σ.hl ≤ σ'.hl
  b : ∀ l, σ.g l = σ'.g l → (∀ i, l = .h i → i < σ.hl) → ∀ bi, σ'.b l = some bi → σ.b l = some bi ∧ cx'.lm l = cx.lm l
  lh : ∀ i, i < σ.hl → cx'.lm (.h i) = cx.lm (.h i)
  im : ∀ r, cx.im r → cx'.im r
  imc : ∀ r, cx.im r → ∀ p v, cel w r p = some v → cel w' r p = some v
  room : ∀ r n, Room w r n → Room w' r n

theorem Ext.refl (σ : Sg) (cx : Cx) (w : World) : Ext σ cx w σ cx w :=
  ⟨fun _ => Nat.le_refl _, Nat.le_refl _, fun _ _ _ _ h => ⟨h, rfl⟩, fun _ _ => rfl, fun _ h => h, fun _ _ _ _ h => h, fun _ _ h => h⟩

theorem Ext.trans {σ σ' σ'' : Sg} {cx cx' cx'' : Cx} {w w' w'' : World} (h : Ext σ cx w σ' cx' w') (k : Ext σ' cx' w' σ'' cx'' w'') : Ext σ cx w σ'' cx'' w'' where
  g l := Nat.le_trans (h.g l) (k.g l)
  hl := Nat.le_trans h.hl k.hl
  b l hg hi bi hb := by
    have h1 := h.g l
    have h2 := k.g l
    obtain ⟨e1, e2⟩ := k.b l (by omega) (fun i e => Nat.lt_of_lt_of_le (hi i e) h.hl) bi hb
    obtain ⟨e3, e4⟩ := h.b l (by omega) hi bi e1
    exact ⟨e3, e2.trans e4⟩
  lh i hi := (k.lh i (Nat.lt_of_lt_of_le hi h.hl)).trans (h.lh i hi)
  im r hr := k.im r (h.im r hr)
  imc r hr p v hv := k.imc r (h.im r hr) p v (h.imc r hr p v hv)
  room r n hr := k.room r n (h.room r n hr)

theorem VR.ext {σ σ' : Sg} {cx cx' : Cx} {w w' : World} (e : Ext σ cx w σ' cx' w') {x : AV} {v : Value} (h : VR σ cx w x v) : VR σ' cx' w' x v := by
  induction h with
  | bool b => exact .bool b
  | int k n => exact .int k n
  | str s => exact .str s
  | nilp => exact .nilp
  | nilm => exact .nilm
  | nilf => exact .nilf
  | nili => exact .nili
  | @sl z els tl a len cap r off fc hlen hcap htl ha hz hc hv h1 ih =>
    refine .sl r off fc hlen hcap htl (fun h0 => ⟨(ha h0).1, e.im r (ha h0).2⟩) hz (fun j q x hx => ?_) (fun j q x hx => ih j q x hx) h1
    have h0 : 0 < (els ++ tl.getD []).length := by
      unfold cellA at hx
      cases hj : (els ++ tl.getD [])[j]? with
      | none => simp [hj] at hx
      | some cs => exact Nat.lt_of_le_of_lt (Nat.zero_le _) (List.getElem?_eq_some_iff.1 hj).1
    exact e.imc r (ha h0).2 _ _ (hc j q x hx)
  | @rs l g z off len cap c a hlen hcap ha hg hl h =>
    refine .rs hlen hcap ha (Nat.le_trans hg (e.g l)) (fun i hi => Nat.lt_of_lt_of_le (hl i hi) e.hl) (fun hge b hb => ?_)
    have h1 := e.g l
    have hg' : σ.g l = g := by omega
    obtain ⟨hb1, hlm⟩ := e.b l (by omega) hl b hb
    obtain ⟨a1, a2, a3, a4⟩ := h hg' b hb1
    refine ⟨a1, a2, a3, fun h0 => ?_⟩
    rw [hlm]
    exact ⟨(a4 h0).1, e.room _ _ (a4 h0).2⟩
  | @pt l g i o p hg hl h =>
    refine .pt (Nat.le_trans hg (e.g l)) (fun i hi => Nat.lt_of_lt_of_le (hl i hi) e.hl) (fun hge b hb => ?_)
    have h1 := e.g l
    obtain ⟨hb1, hlm⟩ := e.b l (by omega) hl b hb
    rw [hlm]
    exact h (by omega) b hb1
  | ip r p fc hr hc hv h1 ih => exact .ip r p fc (e.im r hr) (fun q x hx => e.imc r hr _ _ (hc q x hx)) (fun q x hx => ih q x hx) h1
  | @map b h =>
    have := VR.map (σ := σ') (cx := cx') (w := w') (b := b) (Nat.lt_of_lt_of_le h e.hl)
    rwa [e.lh b h] at this
  | fn ha hc hva hvc iha ihc => exact .fn ha hc (fun i x v h1 h2 => iha i x v h1 h2) (fun i x v h1 h2 => ihc i x v h1 h2)
  | agg hs h h1 ih => exact .agg hs (fun i x v h1 h2 => ih i x v h1 h2) h1
  | tup hs h ih => exact .tup hs (fun i x v h1 h2 => ih i x v h1 h2)

/-- May a slot be written here? -/
def St.wr (s : St) (l : Loc) : Prop := isH l = true → s.ro = false

/-- The blocks that may be written. -/
def Mt (s : St) (cx : Cx) (r : Nat) : Prop :=
  (∃ l b, s.cur l = some b ∧ b.fz = false ∧ b.els ≠ [] ∧ cx.lm l = r ∧ s.wr l) ∨ (∃ i es c, s.h[i]? = some (.map es c) ∧ cx.lm (.h i) = r ∧ s.ro = false)

structure MR (s : St) (cx : Cx) (w : World) : Prop where
  live : ∀ l b, s.cur l = some b → ∀ j q x, cellA b.els j q = some x → ∃ v, cel w (cx.lm l) (j * b.z + q) = some v ∧ VR s.sg cx w x v ∧ v.oneCell' = true
  zs : ∀ l b, s.cur l = some b → ∀ cs, cs ∈ b.els → cs.length = b.z
  mu : ∀ l b, s.cur l = some b → b.fz = false → b.els ≠ [] → ¬ cx.im (cx.lm l) ∧ Room w (cx.lm l) (b.els.length * b.z)
  fz : ∀ l b, s.cur l = some b → b.fz = true → b.els ≠ [] → cx.im (cx.lm l)
  emp : ∀ l b, s.cur l = some b → b.els = [] → b.ex = true
  dis : ∀ l l' b b', s.cur l = some b → s.cur l' = some b' → b.fz = false → b'.fz = false → b.els ≠ [] → b'.els ≠ [] → l ≠ l' → cx.lm l ≠ cx.lm l'
  maps : ∀ i es c, s.h[i]? = some (.map es c) → ∃ es', w.heap[cx.lm (.h i)]? = some (.map es' c) ∧ es'.size = es.length ∧
    ∀ (j : Nat) (e : Ent) (e' : MapEntry), es[j]? = some e → es'[j]? = some e' → VR s.sg cx w e.key e'.key ∧ VR s.sg cx w e.val e'.val ∧ e'.born = e.born
  mdis : ∀ i j es c es' c', s.h[i]? = some (.map es c) → s.h[j]? = some (.map es' c') → i ≠ j → cx.lm (.h i) ≠ cx.lm (.h j)
  ims : ∀ r, cx.im r → r < w.heap.size ∧ ∃ c e f, w.heap[r]? = some (.cells c e f)

structure Go1 (s : St) (cx : Cx) (w : World) (s' : St) (cx' : Cx) (w' : World) : Prop where
  ext : Ext s.sg cx w s'.sg cx' w'
  fr : ∀ r, r < w.heap.size → ¬ Mt s cx r → w'.heap[r]? = w.heap[r]?
  own : ∀ r, Mt s' cx' r → Mt s cx r ∨ w.heap.size ≤ r
  imo : ∀ r, cx'.im r → cx.im r ∨ Mt s cx r ∨ w.heap.size ≤ r
  os : w'.os = w.os
  tape : w'.tape = w.tape
  output : w'.output = w.output
  size : w.heap.size ≤ w'.heap.size

theorem Go1.refl (s : St) (cx : Cx) (w : World) : Go1 s cx w s cx w :=
  ⟨.refl .., fun _ _ _ => rfl, fun _ h => .inl h, fun _ h => .inl h, rfl, rfl, rfl, Nat.le_refl _⟩

theorem Go1.trans {s s' s'' : St} {cx cx' cx'' : Cx} {w w' w'' : World} (h : Go1 s cx w s' cx' w') (k : Go1 s' cx' w' s'' cx'' w'') : Go1 s cx w s'' cx'' w'' where
  ext := h.ext.trans k.ext
  fr r hr hm := by
    rw [k.fr r (Nat.lt_of_lt_of_le hr h.size) (fun hm' => (h.own r hm').elim hm (fun h' => by omega))]
    exact h.fr r hr hm
  own r hr := by
    rcases k.own r hr with h1 | h1
    · exact h.own r h1
    · exact .inr (Nat.le_trans h.size h1)
  imo r hr := by
    rcases k.imo r hr with h1 | h1 | h1
    · exact h.imo r h1
    · exact .inr (h.own r h1)
    · exact .inr (.inr (Nat.le_trans h.size h1))
  os := k.os.trans h.os
  tape := k.tape.trans h.tape
  output := k.output.trans h.output
  size := Nat.le_trans h.size k.size

/-- A draw turns nothing. -/
theorem Go1.drew {s : St} {cx : Cx} {w : World} : Go1 s cx w s cx w.drew :=
  ⟨⟨fun _ => Nat.le_refl _, Nat.le_refl _, fun _ _ _ _ h => ⟨h, rfl⟩, fun _ _ => rfl, fun _ h => h, fun _ _ _ _ h => h, fun _ _ h => h⟩, fun _ _ _ => rfl, fun _ h => .inl h, fun _ h => .inl h, rfl, rfl, rfl, Nat.le_refl _⟩

theorem MR.drew {s : St} {cx : Cx} {w : World} (h : MR s cx w) : MR s cx w.drew := by
  have e : Ext s.sg cx w s.sg cx w.drew := Go1.drew.ext
  exact ⟨fun l b hb j q x hx => by obtain ⟨v, h1, h2, h3⟩ := h.live l b hb j q x hx; exact ⟨v, h1, h2.ext e, h3⟩, h.zs, h.mu, h.fz, h.emp, h.dis,
    fun i es c hi => by
      obtain ⟨es', h1, h2, h3⟩ := h.maps i es c hi
      exact ⟨es', h1, h2, fun j a b ha hb => by obtain ⟨k1, k2, k3⟩ := h3 j a b ha hb; exact ⟨k1.ext e, k2.ext e, k3⟩⟩, h.mdis, h.ims⟩

end Go.Proofs.Bb
