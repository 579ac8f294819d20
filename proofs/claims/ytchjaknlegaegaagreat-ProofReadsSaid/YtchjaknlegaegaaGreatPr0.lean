/- ProofReads returns true at every input, and the input reads as it did. Part 1 of 5. No condition. -/
import Derived.WalkKit
import Derived.OrdersHeld
import Derived.Deep.MidRow
import Derived.KernelRfl
import Derived.Lib.ConvBytes
import Derived.Laws.Externs
import Derived.ProofKit
import Derived.Below
import Derived.Carry
import Derived.ChangeSame
section
/- The layer's ground: heaps as partial functions, owned assertions (a small separation logic), the slots of an act as a list. -/
namespace Go.Ch

/-! ### Partial heaps -/
abbrev Hp := Nat → Option Obj
def Hp.le (S T : Hp) : Prop := ∀ b o, S b = some o → T b = some o
def Hp.minus (h k : Hp) : Hp := fun b => match k b with | some _ => none | none => h b
def Hp.plus (h k : Hp) : Hp := fun b => match h b with | some o => some o | none => k b
def Hp.one (b : Nat) (o : Obj) : Hp := fun c => if c = b then some o else none
def hp (w : World) : Hp := fun b => w.heap[b]?

theorem Hp.le_refl (S : Hp) : S.le S := fun _ _ h => h
theorem Hp.le_trans {S T U : Hp} (h : S.le T) (k : T.le U) : S.le U := fun b o e => k b o (h b o e)
theorem Hp.minus_le (h k : Hp) : (h.minus k).le h := fun b o e => by
  unfold Hp.minus at e; cases hk : k b <;> simp_all
theorem Hp.minus_some {h k : Hp} {b : Nat} {o : Obj} (e : (h.minus k) b = some o) : k b = none ∧ h b = some o := by
  unfold Hp.minus at e; cases hk : k b <;> simp_all
theorem Hp.minus_mk {h k : Hp} {b : Nat} {o : Obj} (e : k b = none) (e' : h b = some o) : (h.minus k) b = some o := by
  unfold Hp.minus; simp [e, e']
theorem Hp.minus_mono {h h' : Hp} (k : Hp) (e : h.le h') : (h.minus k).le (h'.minus k) := fun b o x => by
  obtain ⟨a, c⟩ := Hp.minus_some x; exact Hp.minus_mk a (e b o c)

abbrev Asn := Hp → Prop

/-- Each assertion holds of a part of its own. -/
def Holds : List Asn → Hp → Prop
  | [], _ => True
  | A :: L, h => ∃ h1, A h1 ∧ h1.le h ∧ Holds L (h.minus h1)

theorem Holds.mono : ∀ {L : List Asn} {h h' : Hp}, h.le h' → Holds L h → Holds L h'
  | [], _, _, _, _ => trivial
  | _ :: _, _, _, e, ⟨h1, a, b, c⟩ => ⟨h1, a, Hp.le_trans b e, Holds.mono (Hp.minus_mono h1 e) c⟩

theorem Holds.tail {A : Asn} {L : List Asn} {h : Hp} : Holds (A :: L) h → Holds L h := fun ⟨h1, _, _, c⟩ => c.mono (Hp.minus_le h h1)

theorem Holds.cons {A : Asn} {L : List Asn} {h h1 g : Hp} (a : A h1) (e1 : h1.le g) (e : h.le g) (d : ∀ b o, h b = some o → h1 b = none) (H : Holds L h) :
    Holds (A :: L) g := ⟨h1, a, e1, H.mono fun b o x => Hp.minus_mk (d b o x) (e b o x)⟩

/-- What the k-th assertion has; and what may stand in its place. -/
theorem Holds.get : ∀ {L : List Asn} {h : Hp} {k : Nat} {A : Asn}, Holds L h → L[k]? = some A →
    ∃ h1, A h1 ∧ h1.le h ∧ ∀ (A' : Asn) (h' g : Hp), A' h' → h'.le g → (h.minus h1).le g → (∀ b o, h' b = some o → (h.minus h1) b = none) → Holds (L.set k A') g
  | [], _, _, _, _, e => by simp at e
  | B :: L, h, 0, A, ⟨h1, a, b, c⟩, e => by
    simp at e; subst e
    refine ⟨h1, a, b, fun A' h' g a' e1 e2 d => ⟨h', a', e1, c.mono fun p o x => Hp.minus_mk ?_ (e2 p o x)⟩⟩
    cases hp' : h' p with
    | none => rfl
    | some o' => have := d p o' hp'; rw [this] at x; simp at x
  | B :: L, h, k + 1, A, ⟨h0, a0, b0, c⟩, e => by
    simp at e
    obtain ⟨h1, a, b, f⟩ := c.get e
    refine ⟨h1, a, Hp.le_trans b (Hp.minus_le _ _), fun A' h' g a' e1 e2 d => ?_⟩
    refine ⟨h0, a0, fun p o x => e2 p o (Hp.minus_mk ?_ (b0 p o x)), f A' h' _ a' ?_ ?_ ?_⟩
    · cases hq : h1 p with
      | none => rfl
      | some o' => have := (Hp.minus_some (b p o' hq)).1; rw [x] at this; simp at this
    · intro p o x
      refine Hp.minus_mk ?_ (e1 p o x)
      cases hq : h0 p with
      | none => rfl
      | some o' =>
        have h2 := d p o x
        have : (h.minus h1) p = some o' := Hp.minus_mk (by
          cases hr : h1 p with
          | none => rfl
          | some o2 => have := (Hp.minus_some (b p o2 hr)).1; rw [hq] at this; simp at this) (b0 p o' hq)
        rw [this] at h2; simp at h2
    · intro p o x
      obtain ⟨y1, y2⟩ := Hp.minus_some x
      obtain ⟨y3, y4⟩ := Hp.minus_some y2
      exact Hp.minus_mk y3 (e2 p o (Hp.minus_mk y1 y4))
    · intro p o x
      have := d p o x
      cases hq : ((h.minus h0).minus h1) p with
      | none => rfl
      | some o' =>
        obtain ⟨y1, y2⟩ := Hp.minus_some hq
        obtain ⟨y3, y4⟩ := Hp.minus_some y2
        rw [Hp.minus_mk y1 y4] at this; simp at this

/-! ### The world -/
/-- The world w: the streams are o's; all of S is there; the assertions hold of parts of what is besides. -/
structure Sat (o : World) (S : Hp) (L : List Asn) (w : World) : Prop where
  os : w.os = o.os
  tape : w.tape = o.tape
  output : w.output = o.output
  stay : S.le (hp w)
  own : Holds L ((hp w).minus S)

variable {o : World} {S : Hp} {L : List Asn} {w w' : World}

theorem Sat.drew (h : Sat o S L w) : Sat o S L w.drew := ⟨h.os, h.tape, h.output, h.stay, h.own⟩

theorem hp_alloc_le (w : World) (x : Obj) : (hp w).le (hp (w.alloc x)) := fun b o e => by
  have hlt : b < w.heap.size := by
    rcases Nat.lt_or_ge b w.heap.size with h | h
    · exact h
    · simp [hp, Array.getElem?_eq_none h] at e
  show (w.heap.push x)[b]? = some o
  rw [Array.getElem?_push, if_neg (by omega)]; exact e

theorem hp_alloc_new (w : World) (x : Obj) : hp (w.alloc x) w.heap.size = some x := by
  show (w.heap.push x)[w.heap.size]? = some x
  rw [Array.getElem?_push, if_pos rfl]
theorem hp_size (w : World) : hp w w.heap.size = none := by simp [hp]

theorem Hp.one_some {b c : Nat} {x y : Obj} (e : Hp.one b x c = some y) : c = b ∧ y = x := by
  unfold Hp.one at e; split at e <;> simp_all

/-- A new block. -/
theorem Sat.alloc (h : Sat o S L w) (x : Obj) {A : Asn} (ha : A (Hp.one w.heap.size x)) : Sat o S (A :: L) (w.alloc x) := by
  have hS : S w.heap.size = none := by
    cases e : S w.heap.size with
    | none => rfl
    | some y => have := h.stay _ _ e; rw [hp_size] at this; simp at this
  refine ⟨h.os, h.tape, h.output, Hp.le_trans h.stay (hp_alloc_le _ _), Holds.cons ha ?_ (Hp.minus_mono _ (hp_alloc_le w x)) ?_ h.own⟩
  · intro b y e
    obtain ⟨rfl, rfl⟩ := Hp.one_some e
    exact Hp.minus_mk hS (hp_alloc_new _ _)
  · intro b y e
    have := (Hp.minus_some e).2
    unfold Hp.one; split
    · rename_i hb; subst hb; rw [hp_size] at this; simp at this
    · rfl

theorem Sat.tail {A : Asn} (h : Sat o S (A :: L) w) : Sat o S L w := ⟨h.os, h.tape, h.output, h.stay, h.own.tail⟩

/-- The k-th assertion's part lies in the world, and not in S. -/
theorem Sat.get {k : Nat} {A : Asn} (h : Sat o S L w) (hk : L[k]? = some A) : ∃ h1, A h1 ∧ h1.le (hp w) ∧ ∀ b x, h1 b = some x → S b = none := by
  obtain ⟨h1, a, b, _⟩ := h.own.get hk
  exact ⟨h1, a, Hp.le_trans b (Hp.minus_le _ _), fun c x e => (Hp.minus_some (b c x e)).1⟩

/-- A part of the world is turned, at blocks of the k-th assertion alone (new ones may have come). -/
theorem Sat.turn {k : Nat} {A A' : Asn} (h : Sat o S L w) (hk : L[k]? = some A)
    (hstep : ∀ h1, A h1 → h1.le (hp w) → w'.os = w.os ∧ w'.tape = w.tape ∧ w'.output = w.output ∧
      (∀ b x, h1 b = none → hp w b = some x → hp w' b = some x) ∧
      ∃ h', A' h' ∧ h'.le (hp w') ∧ ∀ b x, h' b = some x → h1 b = none → hp w b = none) : Sat o S (L.set k A') w' := by
  obtain ⟨h1, a, b, f⟩ := h.own.get hk
  obtain ⟨e1, e2, e3, keep, h', a', le', new⟩ := hstep h1 a (Hp.le_trans b (Hp.minus_le _ _))
  have nS : ∀ c x, h1 c = some x → S c = none := fun c x e => (Hp.minus_some (b c x e)).1
  have stay' : S.le (hp w') := fun c x e => keep c x (by
    cases q : h1 c with
    | none => rfl
    | some y => have := nS c y q; rw [e] at this; simp at this) (h.stay c x e)
  refine ⟨e1.trans h.os, e2.trans h.tape, e3.trans h.output, stay', f A' h' _ a' ?_ ?_ ?_⟩
  · intro c x e
    refine Hp.minus_mk ?_ (le' c x e)
    cases q : h1 c with
    | none =>
      cases r : S c with
      | none => rfl
      | some y => have := h.stay c y r; rw [new c x e q] at this; simp at this
    | some y => exact nS c y q
  · intro c x e
    obtain ⟨p, q⟩ := Hp.minus_some e
    obtain ⟨p', q'⟩ := Hp.minus_some q
    exact Hp.minus_mk p' (keep c x p q')
  · intro c x e
    cases q : (((hp w).minus S).minus h1) c with
    | none => rfl
    | some y =>
      obtain ⟨p, q2⟩ := Hp.minus_some q
      obtain ⟨p', q'⟩ := Hp.minus_some q2
      rw [new c x e p] at q'; simp at q'

/-- What the k-th assertion has becomes stable. -/
theorem Sat.share {k : Nat} {A : Asn} (h : Sat o S L w) (hk : L[k]? = some A) : ∃ h1, A h1 ∧ h1.le (hp w) ∧
    S.le (S.plus h1) ∧ h1.le (S.plus h1) ∧ Sat o (S.plus h1) (L.set k (fun _ => True)) w := by
  obtain ⟨h1, a, b, f⟩ := h.own.get hk
  have nS : ∀ c x, h1 c = some x → S c = none := fun c x e => (Hp.minus_some (b c x e)).1
  have le1 : h1.le (hp w) := Hp.le_trans b (Hp.minus_le _ _)
  have l2 : h1.le (S.plus h1) := fun c x e => by unfold Hp.plus; rw [nS c x e]; exact e
  refine ⟨h1, a, le1, fun c x e => by unfold Hp.plus; rw [e], l2, h.os, h.tape, h.output, ?_, ?_⟩
  · intro c x e
    unfold Hp.plus at e
    cases q : S c with
    | none => rw [q] at e; exact le1 c x e
    | some y => rw [q] at e; exact h.stay c x (by rw [q]; exact e)
  · refine f (fun _ => True) (fun _ => none) _ trivial (fun c x e => by simp at e) ?_ (fun c x e => by simp at e)
    intro c x e
    obtain ⟨p, q⟩ := Hp.minus_some e
    obtain ⟨p', q'⟩ := Hp.minus_some q
    refine Hp.minus_mk ?_ q'
    unfold Hp.plus; rw [p']; exact p

end Go.Ch
end
section
/- The judgement over code: an act known by a list of slots, a world known by Sat; the rules of control and of the plain operations. -/
set_option linter.unusedVariables false
set_option linter.unusedSimpArgs false
namespace Go.Ch

abbrev Env := List (Nat × Value)

/-- The act: nothing deferred, n slots, those of E as E says. -/
structure Fits (n : Nat) (E : Env) (a : Act) : Prop where
  defers : a.defers = []
  size : a.tmps.size = n
  at_ : ∀ t v, E.lookup t = some v → a.tmps.getD t undef = v

def ev (E : Env) : Operand → Option Value
  | .tmp t => E.lookup t
  | .const v => some v
  | .global g => some (.pointer (some ⟨g, 0, none⟩))
  | .func f => some (.func (.func f) #[] #[])

theorem Fits.eval {n : Nat} {E : Env} {a : Act} (h : Fits n E a) {x : Operand} {v : Value} (e : ev E x = some v) : a.eval x = v := by
  cases x with
  | tmp t => exact h.at_ t v e
  | const c => simp [ev] at e; simp [Act.eval, e]
  | global g => simp [ev] at e; simp [Act.eval, ← e]
  | func f => simp [ev] at e; simp [Act.eval, ← e]

theorem Fits.put {n : Nat} {E : Env} {a : Act} (h : Fits n E a) {d : Nat} (hd : d < n) (v : Value) : Fits n ((d, v) :: E) (a.put (some d) v) := by
  refine ⟨h.defers, by simp [Act.put, h.size], fun t u e => ?_⟩
  simp only [Act.put]
  simp only [List.lookup_cons] at e
  by_cases c : t = d
  · subst c
    simp at e
    rw [Array.getD_eq_getD_getElem?, Array.getElem?_setIfInBounds_self_of_lt (by rw [h.size]; exact hd)]
    simpa using e
  · have : (t == d) = false := by simpa using c
    rw [this] at e
    rw [Array.getD_eq_getD_getElem?, Array.getElem?_setIfInBounds_ne (fun q => c q.symm), ← Array.getD_eq_getD_getElem?]
    exact h.at_ t u e

theorem Fits.none {n : Nat} {E : Env} {a : Act} (h : Fits n E a) (v : Value) : Fits n E (a.put none v) := h

/-- Less may be known. -/
def sub (E' E : Env) : Bool := E'.all fun p => match E.lookup p.1 with | some _ => true | none => false
theorem Fits.weaken {n : Nat} {E E' : Env} {a : Act} (h : Fits n E a) (e : ∀ t v, E'.lookup t = some v → E.lookup t = some v) : Fits n E' a :=
  ⟨h.defers, h.size, fun t v q => h.at_ t v (e t v q)⟩

section judge
variable (P : Program) (n : Nat) (o : World)

/-- From every act that E fits and every world that S and L fit: the exit e meets Q. -/
def GX (e : Exit) (Q : Exit → Act → World → Prop) (E : Env) (S : Hp) (L : List Asn) : Prop := ∀ a w, Fits n E a → Sat o S L w → Q e a w
def G (c : Code) (Q : Exit → Act → World → Prop) (E : Env) (S : Hp) (L : List Asn) : Prop := ∀ a w, Fits n E a → Sat o S L w → c.wp P Q a w
def GO (ops : Array Oper) (rest : List Oper) (Q : Exit → Act → World → Prop) (E : Env) (S : Hp) (L : List Asn) : Prop := ∀ a w, Fits n E a → Sat o S L w → wpList P ops Q rest a w

variable {P n o}
variable {Q : Exit → Act → World → Prop} {E : Env} {S : Hp} {L : List Asn}

theorem G.seq {x y : Code} (h : ∀ K : Act → World → Prop, (∀ a w, y.wp P Q a w → K a w) → G P n o x (Exit.then K Q) E S L) : G P n o (.seq x y) Q E S L :=
  fun a w f s => wp_seq (h _ (fun _ _ q => q) a w f s)
theorem G.skip (h : GX n o .normal Q E S L) : G P n o .skip Q E S L := fun a w f s => wp_skip (h a w f s)
theorem G.ret (h : GX n o .ret Q E S L) : G P n o .ret Q E S L := fun a w f s => wp_ret (h a w f s)
theorem G.exit {id : Nat} (h : GX n o (.exit id) Q E S L) : G P n o (.exit id) Q E S L := fun a w f s => wp_exit (h a w f s)
theorem G.block {id : Nat} {c : Code} (h : G P n o c (Exit.inBlock id Q) E S L) : G P n o (.block id c) Q E S L := fun a w f s => wp_block (h a w f s)
theorem G.cond {c : Operand} {x y : Code} (t : Bool) (hc : ev E c = some (.bool t)) (ht : t = true → G P n o x Q E S L) (hf : t = false → G P n o y Q E S L) :
    G P n o (.cond c x y) Q E S L := fun a w f s => wp_cond_split (t := t) (f.eval hc) (fun e => ht e a w f s) (fun e => hf e a w f s)
theorem G.region {id : Nat} {l : List Oper} (h : GO P n o l.toArray l Q E S L) : G P n o (.region id l.toArray false) Q E S L :=
  fun a w f s => wp_region_lit (h a w f s)

/-- On to what stands behind. -/
theorem GX.then {K : Act → World → Prop} {y : Code} (hK : ∀ a w, y.wp P Q a w → K a w) (h : G P n o y Q E S L) : GX n o .normal (Exit.then K Q) E S L :=
  fun a w f s => hK a w (h a w f s)
theorem GX.exit_then {id : Nat} {K : Act → World → Prop} (h : GX n o (.exit id) Q E S L) : GX n o (.exit id) (Exit.then K Q) E S L := h
theorem GX.normal_block {id : Nat} (h : GX n o .normal Q E S L) : GX n o .normal (Exit.inBlock id Q) E S L := h
theorem GX.exit_block {id : Nat} (h : GX n o .normal Q E S L) : GX n o (.exit id) (Exit.inBlock id Q) E S L :=
  fun a w f s => by show (if id = id then _ else _); rw [if_pos rfl]; exact h a w f s
theorem GO.nil {ops : Array Oper} (h : GX n o .normal Q E S L) : GO P n o ops [] Q E S L := fun a w f s => wpList_nil (h a w f s)

/-- Forget what isn't wanted; share; less of the own. -/
theorem G.weaken {c : Code} {E' : Env} (e : ∀ t v, E'.lookup t = some v → E.lookup t = some v) (h : G P n o c Q E' S L) : G P n o c Q E S L :=
  fun a w f s => h a w (f.weaken e) s

/-! ### Operations -/
variable (P n o) in
/-- The operation leaves the value v, and nothing else: in every act that E fits, in every world that S and L fit. -/
def Yld (E : Env) (S : Hp) (L : List Asn) (op : Op) (ty : TypeId) (v : Value) : Prop :=
  ∀ a w, Fits n E a → Sat o S L w → ∀ d pos aft g, (execOp a.eval ⟨d, op, ty, pos, aft, g⟩).run P w = .ok (.value v) w
variable (P n o Q) in
/-- The operation leads to states of C. -/
def OS (op : Oper) (E : Env) (S : Hp) (L : List Asn) (C : Env → Hp → List Asn → Prop) : Prop :=
  ∀ K : Act → World → Prop, (∀ E' S' L', C E' S' L' → ∀ a w, Fits n E' a → Sat o S' L' w → K a w) → ∀ a w, Fits n E a → Sat o S L w → op.wp P a w K Q

section ops
variable {ops : Array Oper} {rest : List Oper} {ty : TypeId} {pos : String} {aft : Array Edge} {C : Env → Hp → List Asn → Prop}

theorem OS.val {op : Op} {d : Nat} {v : Value} {g : Option (Nat × Bool)} (hd : d < n) (hy : Yld P n o E S L op ty v) (h : C ((d, v) :: E) S L) : OS P n o Q ⟨some d, op, ty, pos, aft, g⟩ E S L C :=
  fun K hK a w f s => by
    unfold Oper.wp
    rw [hy a w f s]
    exact hK _ _ _ h _ _ (f.put hd v) s

/-- On in a region's list. -/
theorem GO.step {dst : Option Tmp} {op : Op} (h : OS P n o Q ⟨dst, op, ty, pos, aft, none⟩ E S L (GO P n o ops rest Q)) : GO P n o ops (⟨dst, op, ty, pos, aft, none⟩ :: rest) Q E S L :=
  fun a w f s => wpList_plain rfl fun K hK => h K (fun E' S' L' hC a' w' f' s' => hK _ _ (hC a' w' f' s')) a w f s
theorem GO.val {op : Op} {d : Nat} (v : Value) (hd : d < n) (hy : Yld P n o E S L op ty v) (h : GO P n o ops rest Q ((d, v) :: E) S L) : GO P n o ops (⟨some d, op, ty, pos, aft, none⟩ :: rest) Q E S L :=
  GO.step (OS.val hd hy h)

theorem Y.move {x : Operand} {v : Value} (hx : ev E x = some v) : Yld P n o E S L (.move x) ty v := fun a w f s d pos aft g => by simp only [execOp, f.eval hx]; rfl
theorem Y.assign {x : Operand} {v : Value} (hx : ev E x = some v) : Yld P n o E S L (.assign x) ty v := fun a w f s d pos aft g => by simp only [execOp, f.eval hx]; rfl

/-! ### Guards -/
def slotOf (ops : Array Oper) (j : Nat) : Option Tmp := (ops[j]?).bind (·.dst)
theorem yielded_of {a : Act} (f : Fits n E a) {j t : Nat} {b : Bool} (hs : slotOf ops j = some t) (hb : E.lookup t = some (.bool b)) (ht : t < n) : yielded ops a.tmps j = some b := by
  have e := f.at_ t _ hb
  have hlt : t < a.tmps.size := by rw [f.size]; exact ht
  unfold slotOf at hs
  unfold yielded
  rw [hs]
  simp only [Option.bind_some]
  rw [Array.getD_eq_getD_getElem?, Array.getElem?_eq_getElem hlt] at e
  rw [Array.getElem?_eq_getElem hlt]
  simp at e
  rw [e]
/-- A guarded operation that is wanted. -/
theorem GO.on {dst : Option Tmp} {op : Op} {j : Nat} {want : Bool} (t : Nat) (hs : slotOf ops j = some t) (ht : t < n) (hb : E.lookup t = some (.bool want))
    (h : OS P n o Q ⟨dst, op, ty, pos, aft, none⟩ E S L (GO P n o ops rest Q)) : GO P n o ops (⟨dst, op, ty, pos, aft, some (j, want)⟩ :: rest) Q E S L :=
  fun a w f s => by
    have hw : Region.wanted ⟨dst, op, ty, pos, aft, some (j, want)⟩ (yielded ops a.tmps) = true := by
      simp [Region.wanted, yielded_of f hs hb ht]
    have := h (wpList P ops Q rest) (fun E' S' L' hC a' w' f' s' => hC a' w' f' s') a w f s
    show wpList P ops Q (_ :: rest) a w
    unfold wpList
    rw [if_pos hw]
    exact .inl this
/-- One that isn't: nothing is known of its slot. -/
theorem GO.off {d : Nat} {op : Op} {j : Nat} {want b : Bool} (t : Nat) (hs : slotOf ops j = some t) (ht : t < n) (hb : E.lookup t = some (.bool b)) (hne : b ≠ want) (hd : d < n)
    (h : GO P n o ops rest Q ((d, undef) :: E) S L) : GO P n o ops (⟨some d, op, ty, pos, aft, some (j, want)⟩ :: rest) Q E S L :=
  fun a w f s => by
    have hw : Region.wanted ⟨some d, op, ty, pos, aft, some (j, want)⟩ (yielded ops a.tmps) = false := by
      simp [Region.wanted, yielded_of f hs hb ht, hne]
    show wpList P ops Q (_ :: rest) a w
    unfold wpList
    rw [if_neg (by simp [hw])]
    exact h _ _ (f.put hd undef) s
/-- One whose own guard stood on one that wasn't. -/
theorem GO.off' {d : Nat} {op : Op} {j : Nat} {want : Bool} (t : Nat) (hs : slotOf ops j = some t) (ht : t < n) (hb : E.lookup t = some undef) (hd : d < n)
    (h : GO P n o ops rest Q ((d, undef) :: E) S L) : GO P n o ops (⟨some d, op, ty, pos, aft, some (j, want)⟩ :: rest) Q E S L :=
  fun a w f s => by
    have hy : yielded ops a.tmps j = none := by
      have e := f.at_ t _ hb
      have hlt : t < a.tmps.size := by rw [f.size]; exact ht
      unfold slotOf at hs
      unfold yielded
      rw [hs]
      simp only [Option.bind_some]
      rw [Array.getD_eq_getD_getElem?, Array.getElem?_eq_getElem hlt] at e
      rw [Array.getElem?_eq_getElem hlt]
      simp at e
      rw [e]; rfl
    have hw : Region.wanted ⟨some d, op, ty, pos, aft, some (j, want)⟩ (yielded ops a.tmps) = false := by
      simp [Region.wanted, hy]
    show wpList P ops Q (_ :: rest) a w
    unfold wpList
    rw [if_neg (by simp [hw])]
    exact h _ _ (f.put hd undef) s

end ops

theorem wpList_append {ops : Array Oper} {rest : List Oper} : ∀ (mid : List Oper) (a : Act) (w : World),
    wpList P ops (Exit.then (wpList P ops Q rest) Q) mid a w → wpList P ops Q (mid ++ rest) a w
  | [], a, w, h => h
  | q :: mid, a, w, h => by
    have ih := wpList_append (ops := ops) (rest := rest) mid
    show wpList P ops Q (q :: (mid ++ rest)) a w
    unfold wpList at h ⊢
    by_cases hw : Region.wanted q (yielded ops a.tmps) = true
    · rw [if_pos hw] at h ⊢
      rcases h with h | ⟨h, h'⟩
      · refine .inl ?_
        unfold Oper.wp at h ⊢
        generalize (execOp a.eval q).run P w = r at h ⊢
        cases r with
        | ok x w' =>
          cases x <;> simp only [Oper.upon] at h ⊢
          case value v => exact ih _ _ h
          case skip => exact ih _ _ h
          case defer d => exact ih _ _ h
          case enter f args => exact Calls.mono h fun e w'' he => by cases e <;> first | exact ih _ _ he | exact he
          case row row args => exact Rows.mono h fun v w'' he => ih _ _ he
        | halt x w' => cases x <;> simp only [Oper.upon] at h ⊢ <;> exact h
      · exact .inr ⟨h, h'⟩
    · rw [if_neg hw] at h ⊢
      exact ih _ _ h

/-- Behind the first m operations a part ends. -/
theorem GO.part {ops : Array Oper} {l : List Oper} (m : Nat) (h : ∀ K : Act → World → Prop, (∀ a w, wpList P ops Q (l.drop m) a w → K a w) → GO P n o ops (l.take m) (Exit.then K Q) E S L) : GO P n o ops l Q E S L :=
  fun a w f s => by
    have := wpList_append (rest := l.drop m) (l.take m) a w (h _ (fun _ _ q => q) a w f s)
    rwa [List.take_append_drop] at this

theorem Fits.pop2 {p : Nat × Value} {t : Nat} {v : Value} {a : Act} (f : Fits n (p :: (t, v) :: E) a) (h : E.lookup t = Option.none) : Fits n (p :: E) a :=
  f.weaken fun t' v' e => by
    rw [List.lookup_cons] at e ⊢
    split
    · rename_i c; rw [c] at e; exact e
    · rename_i c
      rw [c] at e
      rw [List.lookup_cons]
      by_cases c : t' = t
      · subst c; rw [h] at e; simp at e
      · have : (t' == t) = false := by simpa using c
        rw [this]; exact e

end judge
end Go.Ch
end
section
/- Typed values: bytes, words, labels, strings as Lean data, and how they stand in Go values; segments of a block. -/
namespace Go.Ch
open Go.RowKit (wrap64)

abbrev Str := List UInt8
abbrev Lab := Vector UInt8 32

def u8V (x : UInt8) : Value := .int .u8 (x.toNat : Int)
def u32V (x : UInt32) : Value := .int .u32 (x.toNat : Int)
def u64V (x : UInt64) : Value := .int .u64 (x.toNat : Int)
def strV (s : Str) : Value := .string ⟨s.toArray⟩
/-- A piece of a block: so many cells. -/
structure Seg where
  n : Nat
  cs : Vector Value n
def sV (v : Value) : Seg := ⟨1, #v[v]⟩
def sL (l : Lab) : Seg := ⟨32, l.map u8V⟩
def sU32 {k : Nat} (l : Vector UInt32 k) : Seg := ⟨k, l.map u32V⟩
def cells (L : List Seg) : List Value := (L.map fun s => s.cs.toList).flatten
def width : List Seg → Nat
  | [] => 0
  | s :: L => s.n + width L
theorem cells_cons (s : Seg) (L : List Seg) : cells (s :: L) = s.cs.toList ++ cells L := by simp [cells]
theorem cells_nil : cells [] = [] := rfl
theorem cells_append (L M : List Seg) : cells (L ++ M) = cells L ++ cells M := by simp [cells]
theorem length_cells : ∀ L : List Seg, (cells L).length = width L
  | [] => rfl
  | s :: L => by rw [cells_cons, List.length_append, length_cells L, width]; simp
def aggV (L : List Seg) : Value := .agg (cells L).toArray

/-- One cell each. -/
def okCells (cs : List Value) : Prop := ∀ v ∈ cs, v.oneCell' = true
def okSeg (s : Seg) : Prop := okCells s.cs.toList
theorem ok_sL (l : Lab) : okSeg (sL l) := by
  intro v hv
  simp [sL, Vector.toList_map] at hv
  obtain ⟨a, _, rfl⟩ := hv; rfl
theorem ok_sU32 {k : Nat} (l : Vector UInt32 k) : okSeg (sU32 l) := by
  intro v hv
  simp [sU32, Vector.toList_map] at hv
  obtain ⟨a, _, rfl⟩ := hv; rfl
theorem ok_sV {v : Value} (h : v.oneCell' = true) : okSeg (sV v) := by
  intro u hu
  simp [sV] at hu; subst hu; exact h

/-! ### wraps -/
theorem wrap_i64 (n : Int) : IntKind.i64.wrap n = wrap64 n := by
  have h : IntKind.i64.wrap n = if n % 18446744073709551616 ≥ 9223372036854775808 then n % 18446744073709551616 - 18446744073709551616 else n % 18446744073709551616 := by
    simp [IntKind.wrap, IntKind.bits, IntKind.signed]
  rw [h]; unfold wrap64
  split <;> omega
theorem wrap_u8 (n : Int) : IntKind.u8.wrap n = n % 256 := IntKind.wrap_u8' n
theorem wrap_u32 (n : Int) : IntKind.u32.wrap n = n % 4294967296 := IntKind.wrap_u32' n
theorem wrap_u64 (n : Int) : IntKind.u64.wrap n = n % 18446744073709551616 := IntKind.wrap_u64 n

theorem u8_add (x y : UInt8) : IntKind.u8.wrap ((x.toNat : Int) + y.toNat) = ((x + y).toNat : Int) := by rw [wrap_u8, UInt8.toNat_add]; omega
theorem u32_add (x y : UInt32) : IntKind.u32.wrap ((x.toNat : Int) + y.toNat) = ((x + y).toNat : Int) := by rw [wrap_u32, UInt32.toNat_add]; omega
theorem u64_sub (x y : UInt64) : IntKind.u64.wrap ((x.toNat : Int) - y.toNat) = ((x - y).toNat : Int) := by
  rw [wrap_u64, UInt64.toNat_sub]; have := x.toNat_lt; have := y.toNat_lt; omega
theorem u8_mul (x y : UInt8) : IntKind.u8.wrap ((x.toNat : Int) * y.toNat) = ((x * y).toNat : Int) := by
  rw [wrap_u8, UInt8.toNat_mul, ← Int.natCast_mul]; exact (Int.natCast_emod _ 256).symm
theorem u64_mul (x y : UInt64) : IntKind.u64.wrap ((x.toNat : Int) * y.toNat) = ((x * y).toNat : Int) := by
  rw [wrap_u64, UInt64.toNat_mul, ← Int.natCast_mul]; exact (Int.natCast_emod _ 18446744073709551616).symm

theorem bv_of_nat (k : Nat) (n : Nat) : BitVec.ofInt k (n : Int) = BitVec.ofNat k n := by simp [BitVec.ofInt_natCast]

/-- The bit operations of the model, as numbers. -/
def bitsI (op : BinOp) (k : IntKind) (x y : Int) : Int :=
  match op with
  | .and => k.wrap (BitVec.ofInt k.bits x &&& BitVec.ofInt k.bits y).toNat
  | .or => k.wrap (BitVec.ofInt k.bits x ||| BitVec.ofInt k.bits y).toNat
  | .xor => k.wrap (BitVec.ofInt k.bits x ^^^ BitVec.ofInt k.bits y).toNat
  | _ => k.wrap (BitVec.ofInt k.bits x &&& ~~~BitVec.ofInt k.bits y).toNat

theorem u8_bits (op : BinOp) (x y : UInt8) : bitsI op .u8 x.toNat y.toNat =
    (((match op with | .and => x &&& y | .or => x ||| y | .xor => x ^^^ y | _ => x &&& ~~~y) : UInt8).toNat : Int) := by
  have e : ∀ b : BitVec 8, IntKind.u8.wrap (b.toNat : Int) = (b.toNat : Int) := fun b => by rw [wrap_u8]; have := b.isLt; omega
  have ex : BitVec.ofInt 8 (x.toNat : Int) = x.toBitVec := by rw [bv_of_nat]; simp
  have ey : BitVec.ofInt 8 (y.toNat : Int) = y.toBitVec := by rw [bv_of_nat]; simp
  cases op <;> (show IntKind.u8.wrap _ = _) <;> (simp only [IntKind.bits]; rw [ex, ey]) <;> exact e _
theorem u32_bits (op : BinOp) (x y : UInt32) : bitsI op .u32 x.toNat y.toNat =
    (((match op with | .and => x &&& y | .or => x ||| y | .xor => x ^^^ y | _ => x &&& ~~~y) : UInt32).toNat : Int) := by
  have e : ∀ b : BitVec 32, IntKind.u32.wrap (b.toNat : Int) = (b.toNat : Int) := fun b => by rw [wrap_u32]; have := b.isLt; omega
  have ex : BitVec.ofInt 32 (x.toNat : Int) = x.toBitVec := by rw [bv_of_nat]; simp
  have ey : BitVec.ofInt 32 (y.toNat : Int) = y.toBitVec := by rw [bv_of_nat]; simp
  cases op <;> (show IntKind.u32.wrap _ = _) <;> (simp only [IntKind.bits]; rw [ex, ey]) <;> exact e _
theorem u64_bits (op : BinOp) (x y : UInt64) : bitsI op .u64 x.toNat y.toNat =
    (((match op with | .and => x &&& y | .or => x ||| y | .xor => x ^^^ y | _ => x &&& ~~~y) : UInt64).toNat : Int) := by
  have e : ∀ b : BitVec 64, IntKind.u64.wrap (b.toNat : Int) = (b.toNat : Int) := fun b => by rw [wrap_u64]; have := b.isLt; omega
  have ex : BitVec.ofInt 64 (x.toNat : Int) = x.toBitVec := by rw [bv_of_nat]; simp
  have ey : BitVec.ofInt 64 (y.toNat : Int) = y.toBitVec := by rw [bv_of_nat]; simp
  cases op <;> (show IntKind.u64.wrap _ = _) <;> (simp only [IntKind.bits]; rw [ex, ey]) <;> exact e _

end Go.Ch
end
section
/- Rules of the operations on numbers, bools, strings. -/
set_option linter.unusedVariables false
set_option linter.unusedSimpArgs false
namespace Go.Ch
open Go.RowKit (wrap64)

section
variable {P : Program} {n : Nat} {o : World} {Q : Exit → Act → World → Prop} {E : Env} {S : Hp} {L : List Asn}
variable {C : Env → Hp → List Asn → Prop} {ty t t' : TypeId} {pos : String} {aft : Array Edge} {x y z : Operand} {d : Nat}

theorem run_bin_int (op : BinOp) (k : IntKind) (a b : Int) (v : Value) (w : World) (hop : op ≠ .shl ∧ op ≠ .shr)
    (h : (match op with
      | .add | .sub | .mul => Op.intArith op k a b
      | .quo | .rem => Op.intDiv op k a b
      | .and | .or | .xor | .andNot => Op.intBits op k a b
      | _ => Op.intCmp op a b).run P w = .ok v w) :
    (do eqGuard op t x y (.int k a) (.int k b); binOp op t (.int k a) (.int k b) : Sem Value).run P w = .ok v w := by
  have e1 : (eqGuard op t x y (.int k a) (.int k b)).run P w = .ok () w := by cases op <;> rfl
  rw [Sem.run_bind, e1, Result.andThen_ok]
  cases op <;> simp_all [binOp]

theorem Y.binI {op : BinOp} {k : IntKind} {a b : Int} {v : Value} (hx : ev E x = some (.int k a)) (hy : ev E y = some (.int k b))
    (hop : op ≠ .shl ∧ op ≠ .shr)
    (hv : ∀ w, (match op with
      | .add | .sub | .mul => Op.intArith op k a b
      | .quo | .rem => Op.intDiv op k a b
      | .and | .or | .xor | .andNot => Op.intBits op k a b
      | _ => Op.intCmp op a b).run P w = .ok v w) : Yld P n o E S L (.binOp op t x y t') ty (v) :=
  fun a w f s _ _ _ _ => by
    simp only [execOp, f.eval hx, f.eval hy]
    rw [Sem.run_bind, run_bin_int op k _ _ v w hop (hv w)]; rfl

/-! i64 -/
theorem Y.addI {a b : Int} (hx : ev E x = some (.int .i64 a)) (hy : ev E y = some (.int .i64 b)) : Yld P n o E S L (.binOp .add t x y t') ty (.int .i64 (wrap64 (a + b))) :=
  Y.binI hx hy (by simp) (fun w => by simp [Op.intArith, wrap_i64])
theorem Y.subI {a b : Int} (hx : ev E x = some (.int .i64 a)) (hy : ev E y = some (.int .i64 b)) : Yld P n o E S L (.binOp .sub t x y t') ty (.int .i64 (wrap64 (a - b))) :=
  Y.binI hx hy (by simp) (fun w => by simp [Op.intArith, wrap_i64])
theorem Y.mulI {a b : Int} (hx : ev E x = some (.int .i64 a)) (hy : ev E y = some (.int .i64 b)) : Yld P n o E S L (.binOp .mul t x y t') ty (.int .i64 (wrap64 (a * b))) :=
  Y.binI hx hy (by simp) (fun w => by simp [Op.intArith, wrap_i64])
theorem Y.quoI {a b : Int} (hx : ev E x = some (.int .i64 a)) (hy : ev E y = some (.int .i64 b)) (hb : b ≠ 0) : Yld P n o E S L (.binOp .quo t x y t') ty (.int .i64 (wrap64 (a.tdiv b))) :=
  Y.binI hx hy (by simp) (fun w => by simp [Op.intDiv, wrap_i64, hb])
theorem Y.remI {a b : Int} (hx : ev E x = some (.int .i64 a)) (hy : ev E y = some (.int .i64 b)) (hb : b ≠ 0) : Yld P n o E S L (.binOp .rem t x y t') ty (.int .i64 (a.tmod b)) :=
  Y.binI hx hy (by simp) (fun w => by simp [Op.intDiv, hb])
theorem Y.andI {a b : Int} (hx : ev E x = some (.int .i64 a)) (hy : ev E y = some (.int .i64 b)) : Yld P n o E S L (.binOp .and t x y t') ty (.int .i64 (bitsI .and .i64 a b)) :=
  Y.binI hx hy (by simp) (fun w => by simp [Op.intBits, bitsI])
theorem Y.orI {a b : Int} (hx : ev E x = some (.int .i64 a)) (hy : ev E y = some (.int .i64 b)) : Yld P n o E S L (.binOp .or t x y t') ty (.int .i64 (bitsI .or .i64 a b)) :=
  Y.binI hx hy (by simp) (fun w => by simp [Op.intBits, bitsI])

/-- The six comparisons, as bools. -/
def cmpI (op : BinOp) (a b : Int) : Bool :=
  match op with
  | .eql => a == b
  | .neq => a != b
  | .lss => decide (a < b)
  | .leq => decide (a ≤ b)
  | .gtr => decide (b < a)
  | _ => decide (b ≤ a)
theorem run_intCmp (op : BinOp) (hop : op = .eql ∨ op = .neq ∨ op = .lss ∨ op = .leq ∨ op = .gtr ∨ op = .geq) (a b : Int) (w : World) :
    (Op.intCmp op a b).run P w = .ok (.bool (cmpI op a b)) w := by
  rcases hop with rfl | rfl | rfl | rfl | rfl | rfl <;> simp [Op.intCmp, cmpI]
theorem Y.cmp {op : BinOp} (k : IntKind) (a b : Int) (hx : ev E x = some (.int k a)) (hy : ev E y = some (.int k b))
    (hop : op = .eql ∨ op = .neq ∨ op = .lss ∨ op = .leq ∨ op = .gtr ∨ op = .geq) : Yld P n o E S L (.binOp op t x y t') ty (.bool (cmpI op a b)) :=
  Y.binI hx hy (by rcases hop with rfl | rfl | rfl | rfl | rfl | rfl <;> simp) (fun w => by
    have := run_intCmp (P := P) op hop a b w
    rcases hop with rfl | rfl | rfl | rfl | rfl | rfl <;> exact this)
theorem Y.eqI {a b : Int} (hx : ev E x = some (.int .i64 a)) (hy : ev E y = some (.int .i64 b)) : Yld P n o E S L (.binOp .eql t x y t') ty (.bool (a == b)) := Y.cmp .i64 a b hx hy (by simp)
theorem Y.neI {a b : Int} (hx : ev E x = some (.int .i64 a)) (hy : ev E y = some (.int .i64 b)) : Yld P n o E S L (.binOp .neq t x y t') ty (.bool (a != b)) := Y.cmp .i64 a b hx hy (by simp)
theorem Y.ltI {a b : Int} (hx : ev E x = some (.int .i64 a)) (hy : ev E y = some (.int .i64 b)) : Yld P n o E S L (.binOp .lss t x y t') ty (.bool (decide (a < b))) := Y.cmp .i64 a b hx hy (by simp)
theorem Y.leI {a b : Int} (hx : ev E x = some (.int .i64 a)) (hy : ev E y = some (.int .i64 b)) : Yld P n o E S L (.binOp .leq t x y t') ty (.bool (decide (a ≤ b))) := Y.cmp .i64 a b hx hy (by simp)
theorem Y.gtI {a b : Int} (hx : ev E x = some (.int .i64 a)) (hy : ev E y = some (.int .i64 b)) : Yld P n o E S L (.binOp .gtr t x y t') ty (.bool (decide (b < a))) := Y.cmp .i64 a b hx hy (by simp)
theorem Y.geI {a b : Int} (hx : ev E x = some (.int .i64 a)) (hy : ev E y = some (.int .i64 b)) : Yld P n o E S L (.binOp .geq t x y t') ty (.bool (decide (b ≤ a))) := Y.cmp .i64 a b hx hy (by simp)

/-! shifts -/
def shlI (k : IntKind) (a b : Int) : Int := k.wrap (a * 2 ^ (min b.toNat k.bits))
def shrI (k : IntKind) (a b : Int) : Int := a.fdiv (2 ^ (min b.toNat k.bits))
theorem Y.shl {k k' : IntKind} {a b : Int} (v : Value) (hx : ev E x = some (.int k a)) (hy : ev E y = some (.int k' b)) (hb : 0 ≤ b) (hv : .int k (shlI k a b) = v) : Yld P n o E S L (.binOp .shl t x y t') ty (v) :=
  fun a' w f s _ _ _ _ => by
    have : ¬ b < 0 := by omega
    simp [execOp, f.eval hx, f.eval hy, eqGuard, binOp, Op.shift, this, ← hv, shlI]
theorem Y.shr {k k' : IntKind} {a b : Int} (v : Value) (hx : ev E x = some (.int k a)) (hy : ev E y = some (.int k' b)) (hb : 0 ≤ b) (hv : .int k (shrI k a b) = v) : Yld P n o E S L (.binOp .shr t x y t') ty (v) :=
  fun a' w f s _ _ _ _ => by
    have : ¬ b < 0 := by omega
    simp [execOp, f.eval hx, f.eval hy, eqGuard, binOp, Op.shift, this, ← hv, shrI]

/-! other kinds of integers: one rule, the value by an equation -/
def arithI (op : BinOp) (k : IntKind) (a b : Int) : Int :=
  match op with
  | .add => k.wrap (a + b)
  | .sub => k.wrap (a - b)
  | .mul => k.wrap (a * b)
  | .quo => k.wrap (a.tdiv b)
  | .rem => a.tmod b
  | op => bitsI op k a b
theorem run_arith (op : BinOp) (k : IntKind) (a b : Int) (hop : (op = .add ∨ op = .sub ∨ op = .mul) ∨ (op = .and ∨ op = .or ∨ op = .xor ∨ op = .andNot) ∨ (op = .quo ∨ op = .rem) ∧ b ≠ 0) (w : World) :
    (match op with
      | .add | .sub | .mul => Op.intArith op k a b
      | .quo | .rem => Op.intDiv op k a b
      | .and | .or | .xor | .andNot => Op.intBits op k a b
      | _ => Op.intCmp op a b).run P w = .ok (.int k (arithI op k a b)) w := by
  rcases hop with (rfl | rfl | rfl) | (rfl | rfl | rfl | rfl) | ⟨rfl | rfl, hb⟩ <;> simp [Op.intArith, Op.intBits, Op.intDiv, arithI, bitsI, *]
theorem Y.arith {op : BinOp} {k : IntKind} {a b : Int} (v : Value) (hx : ev E x = some (.int k a)) (hy : ev E y = some (.int k b))
    (hop : (op = .add ∨ op = .sub ∨ op = .mul) ∨ (op = .and ∨ op = .or ∨ op = .xor ∨ op = .andNot) ∨ (op = .quo ∨ op = .rem) ∧ b ≠ 0) (hv : .int k (arithI op k a b) = v) : Yld P n o E S L (.binOp op t x y t') ty (v) :=
  Y.binI hx hy (by rcases hop with (rfl | rfl | rfl) | (rfl | rfl | rfl | rfl) | ⟨rfl | rfl, _⟩ <;> simp) (fun w => by rw [← hv]; exact run_arith op k a b hop w)

/-! bools -/
theorem run_eqlGuard_bool (op : BinOp) (a b : Bool) (w : World) : (eqGuard op t x y (.bool a) (.bool b)).run P w = .ok () w := by cases op <;> rfl
theorem Y.not {b : Bool} (hx : ev E x = some (.bool b))  :
    Yld P n o E S L (.unOp .not t x) ty (.bool (!b)) :=
  fun a' w f s _ _ _ _ => by simp [execOp, f.eval hx, Op.unary]
theorem Y.negI {b : Int} (hx : ev E x = some (.int .i64 b))  :
    Yld P n o E S L (.unOp .neg t x) ty (.int .i64 (wrap64 (-b))) :=
  fun a' w f s _ _ _ _ => by simp [execOp, f.eval hx, Op.unary, Op.intArith, wrap_i64]
theorem Y.un {op : UnOp} {u : Value} (v : Value) (hx : ev E x = some u) (hv : ∀ w, (Op.unary op u).run P w = .ok v w)  :
    Yld P n o E S L (.unOp op t x) ty (v) :=
  fun a' w f s _ _ _ _ => by simp only [execOp, f.eval hx]; rw [Sem.run_bind, hv]; rfl
theorem Y.pick {b : Bool} (u v : Value) (hx : ev E x = some (.bool b)) (hy : ev E y = some u) (hz : ev E z = some v) : Yld P n o E S L (.pick x y z) ty (if b then u else v) :=
  fun a' w f s _ _ _ _ => by simp [execOp, f.eval hx, f.eval hy, f.eval hz, asBool]
/-- '||' and '&&' where the second one was reckoned in any case. -/
theorem Y.pickT {b : Bool} (u : Value) (hb : b = true) (hx : ev E x = some (.bool b)) (hy : ev E y = some u) : Yld P n o E S L (.pick x y z) ty (u) :=
  fun a' w f s _ _ _ _ => by simp [execOp, f.eval hx, f.eval hy, asBool, hb]
theorem Y.pickF {b : Bool} (u : Value) (hb : b = false) (hx : ev E x = some (.bool b)) (hz : ev E z = some u) : Yld P n o E S L (.pick x y z) ty (u) :=
  fun a' w f s _ _ _ _ => by simp [execOp, f.eval hx, f.eval hz, asBool, hb]

end
end Go.Ch
end
section
/- Blocks: what a load gives, what a store makes of the world; the rules of memory of one's own. -/
namespace Go.Ch
open Go.RowKit (wrap64)

/-! ### One block -/
def putBlk (w : World) (b : Nat) (x : Obj) : World := { w with heap := w.heap.setIfInBounds b x }

theorem hp_lt {w : World} {b : Nat} {x : Obj} (h : hp w b = some x) : b < w.heap.size := by
  rcases Nat.lt_or_ge b w.heap.size with h' | h'
  · exact h'
  · simp [hp, Array.getElem?_eq_none h'] at h
theorem hp_putBlk_same {w : World} {b : Nat} {x y : Obj} (h : hp w b = some y) : hp (putBlk w b x) b = some x := by
  simp [hp, putBlk, Array.getElem?_setIfInBounds_self_of_lt (hp_lt h)]
theorem hp_putBlk_ne {w : World} {b c : Nat} {x : Obj} (h : c ≠ b) : hp (putBlk w b x) c = hp w c := by
  simp [hp, putBlk, Array.getElem?_setIfInBounds_ne (Ne.symm h)]

theorem cell_of_hp {w : World} {b off : Nat} {arr : Array Value} {ty : TypeId} {fz : Nat × Nat} (h : hp w b = some (.cells arr ty fz)) :
    w.cell? ⟨b, off, none⟩ = arr[off]? := by
  unfold hp at h; simp [World.cell?, h]
theorem frozen_of_hp {w : World} {b off : Nat} {arr : Array Value} {ty : TypeId} {fz : Nat × Nat} (h : hp w b = some (.cells arr ty fz)) :
    w.frozen? ⟨b, off, none⟩ = (decide (fz.1 ≤ off) && decide (off < fz.2)) := by
  unfold hp at h; obtain ⟨lo, hi⟩ := fz; simp [World.frozen?, h]
theorem setCell_blk {w : World} {b off : Nat} {arr : Array Value} {ty : TypeId} {fz : Nat × Nat} (h : hp w b = some (.cells arr ty fz)) (v : Value) :
    w.setCell ⟨b, off, none⟩ v = putBlk w b (.cells (arr.setIfInBounds off v) ty fz) := by
  have hlt := hp_lt h
  unfold hp at h
  have e : w.heap[b] = .cells arr ty fz := by simpa [Array.getElem?_eq_getElem hlt] using h
  unfold World.setCell putBlk
  congr 1
  apply Array.ext_getElem?
  intro i
  rw [Array.getElem?_modify]
  by_cases hi : b = i
  · subst hi
    rw [if_pos rfl, h, Array.getElem?_setIfInBounds_self_of_lt hlt]; simp
  · rw [if_neg hi, Array.getElem?_setIfInBounds_ne hi]
theorem putBlk_putBlk (w : World) (b : Nat) (x y : Obj) : putBlk (putBlk w b x) b y = putBlk w b y := by
  unfold putBlk
  congr 1
  apply Array.ext_getElem?
  intro i
  simp only [Array.getElem?_setIfInBounds]
  split <;> simp_all
theorem putBlk_self {w : World} {b : Nat} {x : Obj} (h : hp w b = some x) : putBlk w b x = w := by
  have hlt := hp_lt h
  have e : w.heap.setIfInBounds b x = w.heap := by
    apply Array.ext_getElem?
    intro i
    by_cases hi : b = i
    · subst hi
      rw [Array.getElem?_setIfInBounds_self_of_lt hlt]; exact h.symm
    · rw [Array.getElem?_setIfInBounds_ne hi]
  unfold putBlk; rw [e]

section
variable {P : Program}

theorem run_load_blk {w : World} {b off : Nat} {arr : Array Value} {ty : TypeId} {fz : Nat × Nat} {v : Value} (h : hp w b = some (.cells arr ty fz)) (hv : arr[off]? = some v) :
    (load ⟨b, off, none⟩).run P w = .ok v w := by
  rw [run_load, cell_of_hp h, hv]

theorem run_loadCells_blk {w : World} {b off : Nat} {arr : Array Value} {ty : TypeId} {fz : Nat × Nat} (cs : List Value) (h : hp w b = some (.cells arr ty fz))
    (hv : ∀ j v, cs[j]? = some v → arr[off + j]? = some v) : (loadCells ⟨b, off, none⟩ cs.length).run P w = .ok cs.toArray w :=
  run_loadCells_list (P := P) w ⟨b, off, none⟩ cs fun j v e => by rw [Addr.add_mid, cell_of_hp h]; exact hv j v e

theorem run_storeCells_blk (b : Nat) (ty : TypeId) (fz : Nat × Nat) (post : List Value) : ∀ (vs old pre : List Value) (off i : Nat) (w : World),
    hp w b = some (.cells (pre ++ (old ++ post)).toArray ty fz) → old.length = vs.length → pre.length = off + i →
    (∀ j, pre.length ≤ j → j < pre.length + vs.length → ¬ (fz.1 ≤ j ∧ j < fz.2)) → (∀ v ∈ vs, v.oneCell' = true) →
    (storeCells ⟨b, off, none⟩ vs i).run P w = .ok () (putBlk w b (.cells (pre ++ (vs ++ post)).toArray ty fz))
  | [], old, pre, off, i, w, h, hl, _, _, _ => by
    have : old = [] := by cases old <;> simp_all
    subst this
    rw [putBlk_self h]; rfl
  | v :: vs, [], _, _, _, _, _, hl, _, _, _ => by simp at hl
  | v :: vs, u :: old, pre, off, i, w, h, hl, hp', hf, h1 => by
    have hc : w.cell? ((⟨b, off, none⟩ : Addr).add i) = some u := by
      rw [Addr.add_mid, cell_of_hp h, ← hp']; simp
    have hfz : w.frozen? ((⟨b, off, none⟩ : Addr).add i) = false := by
      rw [Addr.add_mid, frozen_of_hp h, ← hp']
      have := hf pre.length (Nat.le_refl _) (by simp)
      simpa using this
    have hst : (store ((⟨b, off, none⟩ : Addr).add i) v).run P w = .ok () (putBlk w b (.cells ((pre ++ [v]) ++ (old ++ post)).toArray ty fz)) := by
      rw [run_store P w _ v .plain (h1 v (by simp)), hc]
      simp only [hfz, Bool.false_eq_true, if_false]
      rw [Addr.add_mid, setCell_blk h, ← hp']
      congr 3
      simp
    have ih := run_storeCells_blk b ty fz post vs old (pre ++ [v]) off (i + 1) (putBlk w b (.cells ((pre ++ [v]) ++ (old ++ post)).toArray ty fz))
      (hp_putBlk_same h) (by simpa using hl) (by simp; omega) (fun j a c => hf j (by simp at a; omega) (by simp at c ⊢; omega)) (fun x hx => h1 x (by simp [hx]))
    simp only [storeCells, Sem.run_bind, hst, Result.andThen_ok]
    rw [ih, putBlk_putBlk]
    simp
end

/-! ### Own blocks -/
def Blk (b : Nat) (L : List Seg) : Asn := fun h => ∃ ty, h b = some (.cells (cells L).toArray ty (0, 0))

/-- Stable cells. -/
def At (S : Hp) (b off : Nat) (cs : List Value) : Prop := ∃ arr ty fz, S b = some (.cells arr ty fz) ∧ ∀ j v, cs[j]? = some v → arr[off + j]? = some v
theorem At.up {S S' : Hp} {b off : Nat} {cs : List Value} (h : At S b off cs) (e : S.le S') : At S' b off cs := by
  obtain ⟨arr, ty, fz, a, c⟩ := h; exact ⟨arr, ty, fz, e _ _ a, c⟩
theorem At.left {S : Hp} {b off : Nat} {cs ds : List Value} (h : At S b off (cs ++ ds)) : At S b off cs := by
  obtain ⟨arr, ty, fz, a, c⟩ := h
  refine ⟨arr, ty, fz, a, fun j v e => c j v ?_⟩
  rw [List.getElem?_append_left (by exact (List.getElem?_eq_some_iff.1 e).1)]; exact e
theorem At.right {S : Hp} {b off : Nat} {cs ds : List Value} (h : At S b off (cs ++ ds)) : At S b (off + cs.length) ds := by
  obtain ⟨arr, ty, fz, a, c⟩ := h
  refine ⟨arr, ty, fz, a, fun j v e => ?_⟩
  have := c (cs.length + j) v (by rw [List.getElem?_append_right (by omega)]; simpa using e)
  rw [show off + cs.length + j = off + (cs.length + j) from by omega]; exact this

/-- The type's values lie in so many cells, as a row or a struct; in one cell. -/
structure RowT (P : Program) (t : TypeId) (k : Nat) : Prop where
  u : ∃ d, P.underlying t = some d ∧ d.isRow = true
  s : (P.info? t).map (·.size) = some k
structure OneT (P : Program) (t : TypeId) : Prop where
  u : ∃ d, P.underlying t = some d ∧ d.isRow = false
  s : (P.info? t).map (·.size) = some 1

section
variable {P : Program} {t : TypeId} {k : Nat} {w : World}
theorem RowT.run_isAgg (h : RowT P t k) : (isAgg t).run P w = .ok true w := by
  obtain ⟨d, a, b⟩ := h.u
  unfold isAgg
  rw [Sem.run_bind, run_underlying a w]
  cases d <;> simp_all
theorem OneT.run_isAgg (h : OneT P t) : (isAgg t).run P w = .ok false w := by
  obtain ⟨d, a, b⟩ := h.u
  unfold isAgg
  rw [Sem.run_bind, run_underlying a w]
  cases d <;> simp_all
theorem run_sizeOf_of (h : (P.info? t).map (·.size) = some k) : (sizeOf t).run P w = .ok k w := by
  cases hq : P.info? t with
  | none => simp [hq] at h
  | some i => simp [hq] at h; simp [sizeOf, typeInfo, hq, h]
theorem RowT.run_load (h : RowT P t k) {b off : Nat} {arr : Array Value} {ty : TypeId} {fz : Nat × Nat} {cs : List Value} (hb : hp w b = some (.cells arr ty fz))
    (hv : ∀ j v, cs[j]? = some v → arr[off + j]? = some v) (hk : cs.length = k) : (Instr.loadAt t (.pointer (some ⟨b, off, none⟩))).run P w = .ok (.agg cs.toArray) w := by
  subst hk
  simp [Instr.loadAt, Instr.sureAddr, loadVar, h.run_isAgg, run_sizeOf_of h.s, run_loadCells_blk cs hb hv]
theorem OneT.run_load (h : OneT P t) {b off : Nat} {arr : Array Value} {ty : TypeId} {fz : Nat × Nat} {v : Value} (hb : hp w b = some (.cells arr ty fz))
    (hv : arr[off]? = some v) : (Instr.loadAt t (.pointer (some ⟨b, off, none⟩))).run P w = .ok v w := by
  simp [Instr.loadAt, Instr.sureAddr, loadVar, h.run_isAgg, cell_of_hp hb, hv]
theorem run_store_at (hs : (P.info? t).map (·.size) = some k) {b off : Nat} {ty : TypeId} {fz : Nat × Nat} {pre old post : List Value} {v : Value} (hb : hp w b = some (.cells (pre ++ (old ++ post)).toArray ty fz))
    (ho : pre.length = off) (hk : old.length = k) (hv : v.cells.toList.length = k) (h1 : ∀ u ∈ v.cells.toList, u.oneCell' = true)
    (hf : ∀ j, off ≤ j → j < off + k → ¬ (fz.1 ≤ j ∧ j < fz.2)) :
    (Instr.storeAt t (.pointer (some ⟨b, off, none⟩)) v).run P w = .ok () (putBlk w b (.cells (pre ++ (v.cells.toList ++ post)).toArray ty fz)) := by
  have := run_storeCells_blk (P := P) b ty fz post v.cells.toList old pre off 0 w hb (by omega) (by omega) (fun j a c => hf j (by omega) (by omega)) h1
  have hsz : v.cells.size = k := by simpa using hv
  simp [Instr.storeAt, Instr.sureAddr, storeVar, run_sizeOf_of hs, hsz, this]
end

theorem aggV_cells (L : List Seg) : (aggV L).cells.toList = cells L := by simp [aggV, Value.cells]

/-- A store turns one assertion. -/
theorem Sat.putBlk {o : World} {S : Hp} {L : List Asn} {w : World} {b : Nat} {A A' : Asn} {k : Nat} (h : Sat o S L w) (hk : L[k]? = some A)
    (x' : Obj)
    (hx : ∀ h1, A h1 → h1.le (hp w) → (∃ y, h1 b = some y) ∧ A' (fun c => if c = b then some x' else h1 c)) : Sat o S (L.set k A') (Ch.putBlk w b x') :=
  h.turn hk fun h1 a e => by
    obtain ⟨⟨y, hy⟩, a'⟩ := hx h1 a e
    refine ⟨rfl, rfl, rfl, fun c z q r => ?_, _, a', fun c z q => ?_, fun c z q r => ?_⟩
    · have : c ≠ b := fun e => by subst e; rw [hy] at q; simp at q
      rw [hp_putBlk_ne this]; exact r
    · by_cases hc : c = b
      · subst hc; simp at q; subst q; exact hp_putBlk_same (e _ _ hy)
      · simp [hc] at q; rw [hp_putBlk_ne hc]; exact e _ _ q
    · by_cases hc : c = b
      · subst hc; rw [hy] at r; simp at r
      · simp [hc] at q; rw [r] at q; simp at q

end Go.Ch
end
section
/- Rules of memory: new variables, loads, stores, fields, elements; structs as values. -/
set_option linter.unusedVariables false
set_option linter.unusedSimpArgs false
namespace Go.Ch
open Go.RowKit (wrap64)

section
variable {P : Program} {n : Nat} {o : World} {Q : Exit → Act → World → Prop} {E : Env} {S : Hp} {L : List Asn}
variable {C : Env → Hp → List Asn → Prop} {ty t t' : TypeId} {pos : String} {aft : Array Edge} {x y z : Operand} {d : Nat}

/-- Any operation that leaves a value. -/
theorem OS.gen {op : Op} (hd : d < n)
    (hrun : ∀ a w, Fits n E a → Sat o S L w → ∃ v w', (execOp a.eval ⟨some d, op, ty, pos, aft, none⟩).run P w = .ok (.value v) w' ∧
      ∃ S' L', Sat o S' L' w' ∧ C ((d, v) :: E) S' L') : OS P n o Q ⟨some d, op, ty, pos, aft, none⟩ E S L C :=
  fun K hK a w f s => by
    obtain ⟨v, w', e, S', L', s', h⟩ := hrun a w f s
    unfold Oper.wp
    rw [e]
    exact hK _ _ _ h _ _ (f.put hd v) s'
/-- Any operation that leaves none. -/
theorem OS.genS {op : Op}
    (hrun : ∀ a w, Fits n E a → Sat o S L w → ∃ w', (execOp a.eval ⟨none, op, ty, pos, aft, none⟩).run P w = .ok .skip w' ∧
      ∃ S' L', Sat o S' L' w' ∧ C E S' L') : OS P n o Q ⟨none, op, ty, pos, aft, none⟩ E S L C :=
  fun K hK a w f s => by
    obtain ⟨w', e, S', L', s', h⟩ := hrun a w f s
    unfold Oper.wp
    rw [e]
    exact hK _ _ _ h _ _ (f.none _) s'

/-! ### new variables -/
def ZeroT (P : Program) (t : TypeId) (L : List Seg) : Prop := ∃ v, (P.info? t).bind (·.zero) = some v ∧ v.cells = (cells L).toArray
theorem ZeroT.run {L : List Seg} (h : ZeroT P t L) (w : World) : ∃ v, (zeroValue t).run P w = .ok v w ∧ v.cells = (cells L).toArray := by
  obtain ⟨v, a, b⟩ := h
  cases hq : P.info? t with
  | none => simp [hq] at a
  | some i => simp [hq] at a; exact ⟨v, by simp [zeroValue, typeInfo, hq, a], b⟩

theorem OS.alloc (segs : List Seg) (hd : d < n) (hz : ZeroT P t segs)
    (h : ∀ b, C ((d, .pointer (some ⟨b, 0, none⟩)) :: E) S (Blk b segs :: L)) : OS P n o Q ⟨some d, .alloc t, ty, pos, aft, none⟩ E S L C :=
  OS.gen hd fun a w f s => by
    obtain ⟨v, e1, e2⟩ := hz.run w
    refine ⟨.pointer (some ⟨w.heap.size, 0, none⟩), w.alloc (.cells v.cells t), ?_, S, Blk w.heap.size segs :: L, s.alloc _ ⟨t, ?_⟩, h _⟩
    · simp [execOp, Instr.alloc, e1, newVar, newRow]
    · unfold Hp.one; rw [if_pos rfl, e2]

theorem OS.box {v : Value} (segs : List Seg) (hd : d < n) (hx : ev E x = some v) (hv : v.cells.toList = cells segs)
    (h : ∀ b, C ((d, .pointer (some ⟨b, 0, none⟩)) :: E) S (Blk b segs :: L)) : OS P n o Q ⟨some d, .box t x, ty, pos, aft, none⟩ E S L C :=
  OS.gen hd fun a w f s => by
    refine ⟨.pointer (some ⟨w.heap.size, 0, none⟩), w.alloc (.cells v.cells t), ?_, S, Blk w.heap.size segs :: L, s.alloc _ ⟨t, ?_⟩, h _⟩
    · simp [execOp, Instr.box, f.eval hx, newVar, newRow]
    · unfold Hp.one; rw [if_pos rfl, ← hv]
theorem OS.boxA {segs : List Seg} (hd : d < n) (hx : ev E x = some (aggV segs))
    (h : ∀ b, C ((d, .pointer (some ⟨b, 0, none⟩)) :: E) S (Blk b segs :: L)) : OS P n o Q ⟨some d, .box t x, ty, pos, aft, none⟩ E S L C :=
  OS.box segs hd hx (aggV_cells segs) h
theorem OS.boxV {v : Value} (hd : d < n) (hx : ev E x = some v) (hv : v.oneCell' = true)
    (h : ∀ b, C ((d, .pointer (some ⟨b, 0, none⟩)) :: E) S (Blk b [sV v] :: L)) : OS P n o Q ⟨some d, .box t x, ty, pos, aft, none⟩ E S L C :=
  OS.box [sV v] hd hx (by cases v <;> first | (simp [Value.oneCell'] at hv; done) | simp [Value.cells, cells, sV]) h

/-! ### addresses -/
structure FieldT (P : Program) (t : TypeId) (i off : Nat) : Prop where
  e : ∃ fs f, P.underlying t = some (.struct fs) ∧ fs[i]? = some f ∧ f.offset = off ∧ ∃ k, (P.info? f.type).map (·.size) = some k ∧ k ≠ 0
theorem FieldT.run {i off : Nat} (h : FieldT P t i off) (b o' : Nat) (w : World) :
    (Instr.fieldAt t (.pointer (some ⟨b, o', none⟩)) i).run P w = .ok (.pointer (some ⟨b, o' + off, none⟩)) w := by
  obtain ⟨fs, f, e1, e2, e3, k, e4, e5⟩ := h.e
  simp [Instr.fieldAt, run_underlying e1, e2, Instr.sureAddr, fieldPlace, run_sizeOf_of e4, e5, Addr.add_mid, e3]
theorem Y.fieldAddr {b o' i off : Nat} (off' : Nat) (hx : ev E x = some (.pointer (some ⟨b, o', none⟩))) (hf : FieldT P t i off) (ho : o' + off = off') : Yld P n o E S L (.fieldAddr t x i) ty (.pointer (some ⟨b, off', none⟩)) :=
  fun a w f s _ _ _ _ => by
    simp only [execOp, f.eval hx]
    rw [Sem.run_bind, hf.run, ho]; rfl
theorem Y.nilCheck {ad : Addr} (hx : ev E x = some (.pointer (some ad))) : Yld P n o E S L (.nilCheck x) ty (.pointer (some ad)) :=
  fun a w f s _ _ _ _ => by simp [execOp, f.eval hx]

structure ArrT (P : Program) (t : TypeId) (len k : Nat) : Prop where
  e : ∃ el, P.underlying t = some (.array len el) ∧ (P.info? el).map (·.size) = some k
structure SlcT (P : Program) (t : TypeId) (k : Nat) : Prop where
  e : ∃ el, P.underlying t = some (.slice el) ∧ (P.info? el).map (·.size) = some k
/-- An element of an array in memory. -/
theorem Y.idxA {b o' len k : Nat} {kd : IntKind} {i : Int} (hx : ev E x = some (.pointer (some ⟨b, o', none⟩))) (hy : ev E y = some (.int kd i)) (ht : ArrT P t len k)
    (hi : 0 ≤ i ∧ i < len)  : Yld P n o E S L (.indexAddr t x y) ty (.pointer (some ⟨b, o' + i.toNat * k, none⟩)) :=
  fun a w f s _ _ _ _ => by
    obtain ⟨el, e1, e2⟩ := ht.e
    simp [execOp, f.eval hx, f.eval hy, Instr.indexAt, asIntOf, run_underlying e1, Instr.sureAddr, hi, run_sizeOf_of e2, Addr.add_mid]

/-! ### loads and stores of own blocks -/
theorem cells_take_drop (segs : List Seg) (i : Nat) : cells segs = cells (segs.take i) ++ cells (segs.drop i) := by rw [← cells_append, List.take_append_drop]

theorem Y.loadB (k i m : Nat) (r : List Seg) {b off w' : Nat} {segs : List Seg} (hx : ev E x = some (.pointer (some ⟨b, off, none⟩)))
    (hk : L[k]? = some (Blk b segs)) (hoff : width (segs.take i) = off) (hr : (segs.drop i).take m = r) (hT : RowT P t w') (hw : width r = w') : Yld P n o E S L (.load t x) ty (aggV r) :=
  fun a w f s _ _ _ _ => by
    obtain ⟨h1, ⟨ty', hb⟩, hle, _⟩ := s.get hk
    simp only [execOp, f.eval hx]
    rw [Sem.run_bind, hT.run_load (cs := cells r) (hle _ _ hb) ?_ (by rw [length_cells, hw])]; rfl
    intro j v e
    rw [cells_take_drop segs i, ← List.take_append_drop m (segs.drop i), hr, cells_append, ← hoff, ← length_cells]
    simp only [List.getElem?_toArray]
    rw [List.getElem?_append_right (by omega), List.getElem?_append_left (by have := (List.getElem?_eq_some_iff.1 e).1; omega)]
    simpa using e
theorem Y.loadV (k i : Nat) (v : Value) {b off : Nat} {segs : List Seg} (hx : ev E x = some (.pointer (some ⟨b, off, none⟩)))
    (hk : L[k]? = some (Blk b segs)) (hoff : width (segs.take i) = off) (hr : segs[i]? = some (sV v)) (hT : OneT P t) : Yld P n o E S L (.load t x) ty (v) :=
  fun a w f s _ _ _ _ => by
    obtain ⟨h1, ⟨ty', hb⟩, hle, _⟩ := s.get hk
    simp only [execOp, f.eval hx]
    rw [Sem.run_bind, hT.run_load (v := v) (hle _ _ hb) ?_]; rfl
    have hd' : segs.drop i = sV v :: segs.drop (i + 1) := by
      obtain ⟨hlt, e⟩ := List.getElem?_eq_some_iff.1 hr
      rw [List.drop_eq_getElem_cons hlt, e]
    rw [cells_take_drop segs i, hd', cells_cons, ← hoff, ← length_cells]
    simp [sV]
/-- One cell out of the midst of a piece: an element of an array. -/
theorem Y.loadE (k i : Nat) (v : Value) {b off j : Nat} {segs : List Seg} (sg : Seg) (hx : ev E x = some (.pointer (some ⟨b, off, none⟩)))
    (hk : L[k]? = some (Blk b segs)) (hr : segs[i]? = some sg) (hoff : width (segs.take i) + j = off) (hj : sg.cs.toList[j]? = some v) (hT : OneT P t) : Yld P n o E S L (.load t x) ty (v) :=
  fun a w f s _ _ _ _ => by
    obtain ⟨h1, ⟨ty', hb⟩, hle, _⟩ := s.get hk
    simp only [execOp, f.eval hx]
    rw [Sem.run_bind, hT.run_load (v := v) (hle _ _ hb) ?_]; rfl
    have hd' : segs.drop i = sg :: segs.drop (i + 1) := by
      obtain ⟨hlt, e⟩ := List.getElem?_eq_some_iff.1 hr
      rw [List.drop_eq_getElem_cons hlt, e]
    rw [cells_take_drop segs i, hd', cells_cons, ← hoff, ← length_cells]
    simp only [List.getElem?_toArray]
    rw [List.getElem?_append_right (by omega)]
    have := (List.getElem?_eq_some_iff.1 hj).1
    rw [List.getElem?_append_left (by omega)]
    simpa using hj

theorem Sat.setBlk {w : World} {b k : Nat} {segs segs' : List Seg} {ty' : TypeId} (s : Sat o S L w) (hk : L[k]? = some (Blk b segs)) :
    Sat o S (L.set k (Blk b segs')) (Ch.putBlk w b (.cells (cells segs').toArray ty' (0, 0))) :=
  s.putBlk hk _ fun h1 ⟨ty'', hb⟩ _ => ⟨⟨_, hb⟩, ty', by simp⟩

theorem OS.store (k i m : Nat) (segs' : List Seg) {b off w' : Nat} {segs r : List Seg} {v : Value} (hx : ev E x = some (.pointer (some ⟨b, off, none⟩))) (hy : ev E y = some v)
    (hv : v.cells.toList = cells r) (hok : okCells (cells r)) (hk : L[k]? = some (Blk b segs)) (hoff : width (segs.take i) = off)
    (hs : (P.info? t).map (·.size) = some w') (hw : width r = w') (hm : width ((segs.drop i).take m) = w')
    (hseg : segs.take i ++ (r ++ (segs.drop i).drop m) = segs')
    (h : C E S (L.set k (Blk b segs'))) : OS P n o Q ⟨none, .store t x y, ty, pos, aft, none⟩ E S L C :=
  OS.genS fun a w f s => by
    obtain ⟨h1, ⟨ty', hb⟩, hle, _⟩ := s.get hk
    have hb' : hp w b = some (.cells (cells (segs.take i) ++ (cells ((segs.drop i).take m) ++ cells ((segs.drop i).drop m))).toArray ty' (0, 0)) := by
      rw [← cells_append, List.take_append_drop, ← cells_append, List.take_append_drop]; exact hle _ _ hb
    refine ⟨_, ?_, S, _, s.setBlk (segs' := segs') (ty' := ty') hk, h⟩
    simp only [execOp, f.eval hx, f.eval hy]
    rw [Sem.run_bind, run_store_at hs hb' (by rw [length_cells, hoff]) (by rw [length_cells, hm]) (by rw [hv, length_cells, hw]) (by rw [hv]; exact hok) (fun j _ _ => by omega)]
    rw [hv, ← cells_append, ← cells_append, hseg]; rfl
theorem list_split {α : Type} (l : List α) (j : Nat) (h : j < l.length) : l = l.take j ++ ([l[j]] ++ l.drop (j + 1)) := by
  conv => lhs; rw [← List.take_append_drop j l, List.drop_eq_getElem_cons h]
  rfl
theorem set_split {α : Type} (v : α) : ∀ (l : List α) (j : Nat), j < l.length → l.set j v = l.take j ++ ([v] ++ l.drop (j + 1))
  | [], _, h => by simp at h
  | a :: l, 0, _ => by simp
  | a :: l, j + 1, h => by simp at h; simp [set_split v l j h]
/-- One cell into the midst of a piece. -/
theorem OS.storeE (k i : Nat) (sg' : Seg) (segs' : List Seg) {b off j : Nat} {segs : List Seg} (sg : Seg) {v : Value} (hx : ev E x = some (.pointer (some ⟨b, off, none⟩))) (hy : ev E y = some v)
    (hv : v.oneCell' = true) (hk : L[k]? = some (Blk b segs)) (hr : segs[i]? = some sg) (hoff : width (segs.take i) + j = off) (hj : j < sg.n)
    (hsg : sg'.cs.toList = sg.cs.toList.set j v) (hseg : segs.set i sg' = segs') (hs : (P.info? t).map (·.size) = some 1)
    (h : C E S (L.set k (Blk b segs'))) : OS P n o Q ⟨none, .store t x y, ty, pos, aft, none⟩ E S L C :=
  OS.genS fun a w f s => by
    obtain ⟨h1, ⟨ty', hb⟩, hle, _⟩ := s.get hk
    have hlen : sg.cs.toList.length = sg.n := by simp
    have hd' : segs.drop i = sg :: segs.drop (i + 1) := by
      obtain ⟨hlt, e⟩ := List.getElem?_eq_some_iff.1 hr
      rw [List.drop_eq_getElem_cons hlt, e]
    have hc : sg.cs.toList = sg.cs.toList.take j ++ ([sg.cs.toList[j]'(by omega)] ++ sg.cs.toList.drop (j + 1)) := list_split _ _ (by omega)
    have hb' : hp w b = some (.cells ((cells (segs.take i) ++ sg.cs.toList.take j) ++ ([sg.cs.toList[j]'(by omega)] ++ (sg.cs.toList.drop (j + 1) ++ cells (segs.drop (i + 1))))).toArray ty' (0, 0)) := by
      have e0 : cells segs = (cells (segs.take i) ++ sg.cs.toList.take j) ++ ([sg.cs.toList[j]'(by omega)] ++ (sg.cs.toList.drop (j + 1) ++ cells (segs.drop (i + 1)))) := by
        rw [cells_take_drop segs i, hd', cells_cons]
        conv => lhs; rw [hc]
        simp only [List.append_assoc]
      rw [← e0]; exact hle _ _ hb
    have hvc : v.cells.toList = [v] := by cases v <;> first | (simp [Value.oneCell'] at hv; done) | simp [Value.cells]
    refine ⟨_, ?_, S, _, s.setBlk (segs' := segs') (ty' := ty') hk, h⟩
    simp only [execOp, f.eval hx, f.eval hy]
    have e2 : cells segs' = (cells (segs.take i) ++ sg.cs.toList.take j) ++ (v.cells.toList ++ (sg.cs.toList.drop (j + 1) ++ cells (segs.drop (i + 1)))) := by
      have hlt : i < segs.length := (List.getElem?_eq_some_iff.1 hr).1
      rw [← hseg, set_split _ _ _ hlt, cells_append, cells_append, cells_cons, cells_nil, hsg, hvc, set_split v _ _ (by omega)]
      simp only [List.append_assoc, List.nil_append]
    rw [Sem.run_bind, run_store_at hs hb' (by rw [List.length_append, length_cells, List.length_take, hlen, Nat.min_eq_left (by omega)]; omega) (by simp) (by rw [hvc]; rfl) (by rw [hvc]; simpa using hv) (fun j _ _ => by omega), ← e2]
    rfl

end
end Go.Ch
end
section
/- Rules: structs as values, calls, the entry into a function and the return. -/
set_option linter.unusedVariables false
set_option linter.unusedSimpArgs false
namespace Go.Ch
open Go.RowKit (wrap64)

section
variable {P : Program} {n : Nat} {o : World} {Q : Exit → Act → World → Prop} {E : Env} {S : Hp} {L : List Asn}
variable {C : Env → Hp → List Asn → Prop} {ty t t' : TypeId} {pos : String} {aft : Array Edge} {x y z : Operand} {d : Nat}

/-! ### build -/
theorem foldl_setIfInBounds (cs : List Value) : ∀ (pre old post : List Value) (off i : Nat), old.length = cs.length → pre.length = off + i →
    (cs.zipIdx i).foldl (fun (acc : Array Value) (p : Value × Nat) => acc.setIfInBounds (off + p.2) p.1) (pre ++ (old ++ post)).toArray = (pre ++ (cs ++ post)).toArray := by
  induction cs with
  | nil => intro pre old post off i h _; have : old = [] := by cases old <;> simp_all
           subst this; rfl
  | cons c cs ih =>
    intro pre old post off i h hp'
    cases old with
    | nil => simp at h
    | cons u old =>
      simp only [List.zipIdx_cons, List.foldl_cons]
      have e : (pre ++ (u :: old ++ post)).toArray.setIfInBounds (off + i) c = ((pre ++ [c]) ++ (old ++ post)).toArray := by
        rw [← hp']; simp
      rw [e, ih (pre ++ [c]) old post off (i + 1) (by simpa using h) (by simp; omega)]
      simp

theorem fill_step {place : Nat → Option (Nat × Nat)} {f off size : Nat} {v : Value} {rest' : List (Nat × Value)} {pre old post r : List Value}
    (hp' : place f = some (off, size)) (hv : v.cells.toList = r) (hr : r.length = size) (ho : pre.length = off) (hl : old.length = size) :
    Instr.fill place (pre ++ (old ++ post)).toArray ((f, v) :: rest') = Instr.fill place (pre ++ (r ++ post)).toArray rest' := by
  subst hv
  have hsz : v.cells.size = size := by simpa using hr
  have hle : ¬ (off + v.cells.size > (pre ++ (old ++ post)).toArray.size) := by simp; omega
  have hs2 : ¬ (v.cells.size ≠ size ∨ off + v.cells.size > (pre ++ (old ++ post)).toArray.size) := by
    rintro (h | h)
    · exact h hsz
    · exact hle h
  have e := foldl_setIfInBounds v.cells.toList pre old post off 0 (by simp; omega) (by omega)
  simp only [Instr.fill, hp']
  rw [if_neg (by simpa using hs2)]
  congr 1
  rw [← e, ← Array.foldl_toList, Array.toList_zipIdx]

inductive Built (place : Nat → Option (Nat × Nat)) : List Seg → List (Nat × Value) → List Seg → Prop
  | nil {segs : List Seg} : Built place segs [] segs
  | cons (i m : Nat) (r : List Seg) {segs out : List Seg} {f off size : Nat} {v : Value} {rest : List (Nat × Value)} : place f = some (off, size) → v.cells.toList = cells r →
      width r = size → width (segs.take i) = off → width ((segs.drop i).take m) = size → Built place (segs.take i ++ (r ++ (segs.drop i).drop m)) rest out → Built place segs ((f, v) :: rest) out

theorem Built.fill {place : Nat → Option (Nat × Nat)} {segs out : List Seg} {ps : List (Nat × Value)} (h : Built place segs ps out) :
    Instr.fill place (cells segs).toArray ps = some (cells out).toArray := by
  induction h with
  | nil => rfl
  | @cons i m r segs out f off size v rest h1 h2 h3 h4 h5 _ ih =>
    have e : cells segs = cells (segs.take i) ++ (cells ((segs.drop i).take m) ++ cells ((segs.drop i).drop m)) := by
      rw [← cells_append, List.take_append_drop, ← cells_append, List.take_append_drop]
    rw [e, fill_step h1 h2 (by rw [length_cells, h3]) (by rw [length_cells, h4]) (by rw [length_cells, h5]), ← cells_append, ← cells_append, ih]

/-- A struct's fields: their places. -/
structure StrT (P : Program) (t : TypeId) (ps : List (Nat × Nat)) : Prop where
  e : ∃ fs, P.underlying t = some (.struct fs) ∧ ∀ w, (fs.mapM fun f => (do pure (f.offset, ← sizeOf f.type) : Sem (Nat × Nat))).run P w = .ok ps.toArray w

theorem Y.build {parts : List (Nat × Operand)} {ps : List (Nat × Nat)} {segs0 : List Seg} (vs : List (Nat × Value)) (out : List Seg) (ht : StrT P t ps) (hz : ZeroT P t segs0)
    (hv : ∀ a : Act, Fits n E a → parts.map (fun p => (p.1, a.eval p.2)) = vs) (hb : Built (fun i => ps[i]?) segs0 vs out) : Yld P n o E S L (.build t parts.toArray) ty (aggV out) :=
  fun a w f s _ _ _ _ => by
    obtain ⟨fs, e1, e2⟩ := ht.e
    obtain ⟨v, e3, e4⟩ := hz.run (P := P) w
    have e5 : (parts.toArray.map fun (i, x) => (i, a.eval x)) = vs.toArray := by rw [← hv a f]; simp
    have e6 := hb.fill
    simp only [execOp, e5, Instr.build]
    simp only [Sem.run_bind, e3, Result.andThen_ok, run_underlying e1, e2, Sem.run_pure]
    have e7 : (fun x : Nat => ps.toArray[x]?) = fun i => ps[i]? := by funext i; simp
    rw [e7, e4, e6]; rfl

/-! ### tuples -/
theorem Y.extract {i : Nat} {vs : List Value} (v : Value) (hx : ev E x = some (.tuple vs.toArray)) (hi : vs[i]? = some v) : Yld P n o E S L (.extract x i) ty (v) :=
  fun a w f s _ _ _ _ => by simp [execOp, f.eval hx, Instr.extract, hi]

/-! ### fields and elements of values -/
theorem Y.field {fi off : Nat} {segs : List Seg} (i m : Nat) (r : List Seg) {t2 : TypeId} {k : Nat} (hx : ev E x = some (aggV segs))
    (ht : ∃ fs f, P.underlying t = some (.struct fs) ∧ fs[fi]? = some f ∧ f.offset = off ∧ f.type = t2) (hoff : width (segs.take i) = off) (hr : (segs.drop i).take m = r) (hT : RowT P t2 k) (hw : width r = k) : Yld P n o E S L (.field t x fi) ty (aggV r) :=
  fun a w f s _ _ _ _ => by
    obtain ⟨fs, fl, e1, e2, e3, e4⟩ := ht
    have hx' := f.eval hx
    have e : cells segs = cells (segs.take i) ++ (cells r ++ cells ((segs.drop i).drop m)) := by
      rw [← hr, ← cells_append, List.take_append_drop, ← cells_append, List.take_append_drop]
    simp only [execOp, hx', aggV, Instr.field]
    subst e4
    simp [run_underlying e1, e2, asAgg, part, hT.run_isAgg, run_sizeOf_of hT.s, e3]
    rw [e, List.drop_append_of_le_length (by rw [length_cells, hoff]; exact Nat.le_refl _), List.drop_of_length_le (by rw [length_cells, hoff]; exact Nat.le_refl _)]
    rw [List.nil_append, show k = (cells r).length from by rw [length_cells, hw], List.take_left]
/-! ### calls -/
/-- The contract of a function that only computes: whatever is there stays as it is. -/
def Fn (P : Program) (f : FuncId) (args : List Value) (S : Hp) (post : Value → Hp → Prop) : Prop :=
  ∀ (o : World) (L : List Asn) (w : World), Sat o S L w → Calls P f args.toArray w fun e w' => ∃ v S', e = .returned v ∧ S.le S' ∧ Sat o S' L w' ∧ post v S'

theorem Fn.mono {f : FuncId} {args : List Value} {post post' : Value → Hp → Prop} (h : Fn P f args S post) (hp' : ∀ v S', S.le S' → post v S' → post' v S') : Fn P f args S post' :=
  fun o L w s => (h o L w s).mono fun e w' ⟨v, S', e1, e2, e3, e4⟩ => ⟨v, S', e1, e2, e3, hp' v S' e2 e4⟩

structure FnB (P : Program) (f : FuncId) : Prop where
  e : ∃ fn, P.funcs[f]? = some fn ∧ (fn.name == "runtime.NumGoroutine") = false ∧ fn.body.isNone = false

def evs (E : Env) : List Operand → Option (List Value)
  | [] => some []
  | x :: l => match ev E x, evs E l with
    | some v, some vs => some (v :: vs)
    | _, _ => none
theorem Fits.evals {a : Act} (f : Fits n E a) : ∀ {l : List Operand} {vs : List Value}, evs E l = some vs → l.map a.eval = vs
  | [], vs, h => by simp [evs] at h; simp [h]
  | x :: l, vs, h => by
    simp only [evs] at h
    split at h
    · rename_i v vs' h1 h2
      simp at h
      rw [← h, List.map_cons, f.eval h1, f.evals h2]
    · simp at h

theorem run_callFn {f : FuncId} (hf : FnB P f) (args : Array Value) (w : World) : (callFunc f args).run P w = .ok (.enter f args) w := by
  obtain ⟨fn, e1, e2, e3⟩ := hf.e
  simp only [callFunc, Sem.run_bind, run_program, Result.andThen_ok, e1, e2, e3, Bool.false_eq_true, if_false, Sem.run_pure]

/-- A call of a named function, with a result that goes into a slot. -/
theorem OS.call {f : FuncId} {xs : List Operand} {ts : Array TypeId} {post : Value → Hp → Prop} (args : List Value) (hd : d < n) (hx : evs E xs = some args) (hf : FnB P f) (hc : Fn P f args S post)
    (h : ∀ v S', S.le S' → post v S' → C ((d, v) :: E) S' L) : OS P n o Q ⟨some d, .call ⟨.value (.func f), xs.toArray, ts⟩, ty, pos, aft, none⟩ E S L C :=
  fun K hK a w fi s => by
    unfold Oper.wp
    have e : (execOp a.eval ⟨some d, .call ⟨.value (.func f), xs.toArray, ts⟩, ty, pos, aft, none⟩).run P w = .ok (.enter f args.toArray) w := by
      have e1 : xs.toArray.map a.eval = args.toArray := by rw [← fi.evals hx]; simp
      simp only [execOp, resolve, e1, Act.eval, Deferred.ofValue, Sem.run_bind, Sem.run_pure, Result.andThen_ok, invoke]
      simp only [Array.empty_append, Array.append_empty, run_callFn hf]
    rw [e, Oper.upon_enter]
    exact (hc o L w s).mono fun e' w' ⟨v, S', e1, e2, e3, e4⟩ => by subst e1; exact hK _ _ _ (h v S' e2 e4) _ _ (fi.put hd v) e3

/-! ### into a function, and back -/
theorem Sat.drop {w : World} : ∀ (k : Nat) {L F : List Asn}, Sat o S L w → L.drop k = F → Sat o S F w
  | 0, L, F, s, e => by simp at e; exact e ▸ s
  | k + 1, [], F, s, e => by simp at e; exact e ▸ s
  | k + 1, A :: L, F, s, e => by simp at e; exact Sat.drop k s.tail e

/-- The slots at the start: the arguments. -/
def argEnv : Nat → List Value → Env
  | _, [] => []
  | i, v :: vs => (i, v) :: argEnv (i + 1) vs
theorem lookup_argEnv : ∀ (vs : List Value) (i t : Nat) (v : Value), (argEnv i vs).lookup t = some v → i ≤ t ∧ vs[t - i]? = some v
  | [], i, t, v, h => by simp [argEnv] at h
  | u :: vs, i, t, v, h => by
    simp only [argEnv, List.lookup_cons] at h
    by_cases c : t = i
    · subst c; simp at h; simp [h]
    · have c' : (t == i) = false := by simpa using c
      rw [c'] at h
      obtain ⟨a, b⟩ := lookup_argEnv vs (i + 1) t v h
      refine ⟨by omega, ?_⟩
      rw [show t - i = (t - (i + 1)) + 1 from by omega]; simpa using b
theorem fits_enter (args : List Value) (hn : args.length ≤ n) : Fits n (argEnv 0 args) { tmps := args.toArray ++ Array.replicate (n - args.toArray.size) undef, defers := [] } := by
  refine ⟨rfl, by simp; omega, fun t v h => ?_⟩
  obtain ⟨_, b⟩ := lookup_argEnv args 0 t v h
  have hlt := (List.getElem?_eq_some_iff.1 b).1
  rw [Array.getD_eq_getD_getElem?, Array.getElem?_append_left (by simp; omega)]
  simp at b ⊢
  simp [b]

/-- A result's value. -/
inductive Res (P : Program) (E : Env) (L : List Asn) : ResultVar → Value → Prop
  | tmp {t : Nat} {v : Value} : E.lookup t = some v → Res P E L (.tmp t) v
  | row {t b k w' : Nat} {ty : TypeId} {segs : List Seg} : E.lookup t = some (.pointer (some ⟨b, 0, none⟩)) → L[k]? = some (Blk b segs) → RowT P ty w' → width segs = w' → Res P E L (.cell t ty) (aggV segs)
  | one {t b k : Nat} {ty : TypeId} {v : Value} : E.lookup t = some (.pointer (some ⟨b, 0, none⟩)) → L[k]? = some (Blk b [sV v]) → OneT P ty → Res P E L (.cell t ty) v
inductive Ress (P : Program) (E : Env) (L : List Asn) : List ResultVar → List Value → Prop
  | nil : Ress P E L [] []
  | cons {r : ResultVar} {v : Value} {rs : List ResultVar} {vs : List Value} : Res P E L r v → Ress P E L rs vs → Ress P E L (r :: rs) (v :: vs)

def retV : List Value → Value
  | [v] => v
  | vs => .tuple vs.toArray

def resOne (a : Act) : ResultVar → Sem Value
  | .tmp t => pure (a.tmps.getD t undef)
  | .cell ad ty => do loadVar ty (← asAddr (a.tmps.getD ad undef))
theorem Res.run {r : ResultVar} {v : Value} (h : Res P E L r v) {a : Act} {w : World} (f : Fits n E a) (s : Sat o S L w) : (resOne a r).run P w = .ok v w := by
  cases h with
  | tmp h => simp [resOne, f.at_ _ _ h]
  | @row t b k w' ty segs h1 h2 h3 h4 =>
    obtain ⟨g, ⟨ty', hb⟩, hle, _⟩ := s.get h2
    have := h3.run_load (cs := cells segs) (off := 0) (hle _ _ hb) (fun j v e => by simpa using e) (by rw [length_cells, h4])
    simp only [resOne, f.at_ _ _ h1]
    simpa [Instr.loadAt, Instr.sureAddr, asAddr, aggV] using this
  | @one t b k ty v h1 h2 h3 =>
    obtain ⟨g, ⟨ty', hb⟩, hle, _⟩ := s.get h2
    have := h3.run_load (v := v) (off := 0) (hle _ _ hb) (by simp [cells, sV])
    simp only [resOne, f.at_ _ _ h1]
    simpa [Instr.loadAt, Instr.sureAddr, asAddr] using this
theorem Ress.run {rs : List ResultVar} {vs : List Value} (h : Ress P E L rs vs) {a : Act} {w : World} (f : Fits n E a) (s : Sat o S L w) :
    (rs.mapM (resOne a)).run P w = .ok vs w := by
  induction h with
  | nil => rfl
  | cons h1 _ ih => simp [List.mapM_cons, h1.run f s, ih]
theorem run_results {fn : Func} {rs : List ResultVar} {vs : List Value} (hr : fn.results = rs.toArray) (h : Ress P E L rs vs) {a : Act} {w : World} (f : Fits n E a) (s : Sat o S L w) :
    (results fn a.tmps).run P w = .ok (retV vs) w := by
  have e : results fn a.tmps = (do let vs ← rs.toArray.mapM (resOne a); pure (if h : vs.size = 1 then vs[0] else .tuple vs)) := by
    unfold results; rw [hr]; rfl
  rw [e, List.mapM_toArray]
  simp only [Sem.run_bind, Sem.run_map, h.run f s, Result.andThen_ok, Sem.run_pure]
  congr 1
  cases vs with
  | nil => rfl
  | cons v vs => cases vs <;> simp [retV]

theorem GX.ret_fn {fn : Func} {R : Ending → World → Prop} {rs : List ResultVar} (vs : List Value) (hr : fn.results = rs.toArray) (h : Ress P E L rs vs)
    (hR : ∀ w, Sat o S L w → R (.returned (retV vs)) w) : GX n o .ret (bodyPost P fn R) E S L :=
  fun a w f s => ⟨f.defers, retV vs, run_results hr h f s, hR w s⟩

/-- A function that only computes. -/
theorem Fn.of {f : FuncId} {fn : Func} {c : Code} {args : List Value} {post : Value → Hp → Prop} (rs : List ResultVar) (hf : P.funcs[f]? = some fn) (hb : fn.body = some c) (hn : args.length ≤ fn.ntmps) (hr : fn.results = rs.toArray)
    (h : ∀ (o : World) (F : List Asn) (Q : Exit → Act → World → Prop),
      (∀ E S' L vs k, S.le S' → Ress P E L rs vs → post (retV vs) S' → L.drop k = F → GX fn.ntmps o .ret Q E S' L) → G P fn.ntmps o c Q (argEnv 0 args) S F) : Fn P f args S post :=
  fun o F w s => calls_of_wp hf hb (h o F _ (fun E S' L vs k e1 e2 e3 e4 => GX.ret_fn vs hr e2 fun w' s' => ⟨_, S', rfl, e1, s'.drop k e4, e3⟩) _ w (fits_enter args hn) s)

end
end Go.Ch
end
section
/- Slices: stable ones, which are read; own rows, which grow; append; strings and bytes. -/
set_option linter.unusedVariables false
set_option linter.unusedSimpArgs false
namespace Go.Ch
open Go.RowKit (wrap64)

/-- A Lean type whose values stand in so many cells, whatever the memory. -/
class Enc (α : Type) extends Inhabited α where
  sg : α → List Seg
  k : Nat
  pos : 0 < k
  hk : ∀ x, width (sg x) = k
  ok : ∀ x, okCells (cells (sg x))
open Enc (sg)

def getI {α : Type} [Inhabited α] (xs : List α) (i : Int) : α := xs.getD i.toNat default
def cutL {α : Type} (xs : List α) (lo hi : Int) : List α := (xs.drop lo.toNat).take (hi.toNat - lo.toNat)
def lenI {α : Type} (xs : List α) : Int := (xs.length : Int)

section enc
variable {α : Type} [Enc α]
def encL (xs : List α) : List Value := (xs.map fun x => cells (sg x)).flatten
theorem encL_nil : encL ([] : List α) = [] := rfl
theorem encL_cons (x : α) (xs : List α) : encL (x :: xs) = cells (sg x) ++ encL xs := by simp [encL]
theorem encL_append (xs ys : List α) : encL (xs ++ ys) = encL xs ++ encL ys := by simp [encL]
theorem length_encL : ∀ xs : List α, (encL xs).length = xs.length * Enc.k α
  | [] => by simp [encL]
  | x :: xs => by rw [encL_cons, List.length_append, length_encL xs, length_cells, Enc.hk]; simp [Nat.add_mul]; omega
theorem ok_encL : ∀ xs : List α, okCells (encL xs)
  | [] => by simp [encL, okCells]
  | x :: xs => by
    rw [encL_cons]
    intro v hv
    rcases List.mem_append.1 hv with h | h
    · exact Enc.ok x v h
    · exact ok_encL xs v h
theorem encL_split (xs : List α) (i : Nat) (h : i < xs.length) : encL xs = encL (xs.take i) ++ (cells (sg xs[i]) ++ encL (xs.drop (i + 1))) := by
  conv => lhs; rw [list_split xs i h]
  rw [encL_append, encL_append, encL_cons, encL_nil, List.append_nil]
theorem getI_eq (xs : List α) (i : Int) (h0 : 0 ≤ i) (h : i < xs.length) : getI xs i = xs[i.toNat]'(by omega) := by
  unfold getI; rw [List.getD_eq_getElem?_getD, List.getElem?_eq_getElem (by omega)]; rfl

/-- A stable slice. -/
def Sls (S : Hp) (v : Value) (xs : List α) : Prop :=
  ∃ a cap, v = .slice a xs.length cap ∧ xs.length ≤ cap ∧ (xs = [] ∨ ∃ b off, a = some ⟨b, off, none⟩ ∧ At S b off (encL xs))
theorem Sls.up {S S' : Hp} {v : Value} {xs : List α} (h : Sls S v xs) (e : S.le S') : Sls S' v xs := by
  obtain ⟨a, cap, h1, h2, h3⟩ := h
  refine ⟨a, cap, h1, h2, h3.imp id fun ⟨b, off, h4, h5⟩ => ⟨b, off, h4, h5.up e⟩⟩
theorem Sls.nil (S : Hp) : Sls S (.slice none 0 0) ([] : List α) := ⟨none, 0, rfl, Nat.le_refl _, .inl rfl⟩

/-- A row of one's own, from the head of a block on; nil has none. -/
def Rw (v : Value) (xs : List α) : Asn := fun h => (v = .slice none 0 0 ∧ xs = []) ∨
  ∃ g cap cur ty fz, v = .slice (some ⟨g, 0, none⟩) xs.length cap ∧ h g = some (.cells cur ty fz) ∧ xs.length ≤ cap ∧ cur.size = cap * Enc.k α ∧
    (∃ junk, cur = (encL xs ++ junk).toArray) ∧ ∀ j, fz.1 ≤ j → j < fz.2 → cur.size ≤ j
theorem Rw.nil : Rw (.slice none 0 0) ([] : List α) (fun _ => none) := .inl ⟨rfl, rfl⟩

theorem Rw.mk1 {g cap : Nat} {xs : List α} {cur : Array Value} {ty : TypeId} {fz : Nat × Nat} (junk : List Value) (h1 : cur = (encL xs ++ junk).toArray) (h2 : cur.size = cap * Enc.k α) (h3 : xs.length ≤ cap)
    (h4 : ∀ j, fz.1 ≤ j → j < fz.2 → cur.size ≤ j) : Rw (.slice (some ⟨g, 0, none⟩) xs.length cap) xs (Hp.one g (.cells cur ty fz)) :=
  .inr ⟨g, cap, cur, ty, fz, rfl, by unfold Hp.one; rw [if_pos rfl], h3, h2, ⟨junk, h1⟩, h4⟩

/-- It is shared: from now on it stays. -/
theorem Rw.share {o : World} {S : Hp} {L : List Asn} {w : World} {k : Nat} {v : Value} {xs : List α} (s : Sat o S L w) (hk : L[k]? = some (Rw v xs)) :
    ∃ S', S.le S' ∧ Sat o S' (L.set k (fun _ => True)) w ∧ Sls S' v xs := by
  obtain ⟨h1, a, b, c, e, f⟩ := s.share hk
  refine ⟨_, c, f, ?_⟩
  rcases a with ⟨rfl, rfl⟩ | ⟨g, cap, cur, ty, fz, h2, h3, h4, h5, ⟨junk, h6⟩, h7⟩
  · exact Sls.nil _
  · refine ⟨_, cap, h2, h4, .inr ⟨g, 0, rfl, cur, ty, fz, e _ _ h3, fun j u q => ?_⟩⟩
    subst h6
    have := (List.getElem?_eq_some_iff.1 q).1
    simp [List.getElem?_append_left this, q]

/-- What an append may take from. -/
def Src (P : Program) (o : World) (S : Hp) (L : List Asn) (x : Value) (ys : List α) : Prop :=
  ∀ w, Sat o S L w → (Builtin.lenOf x).run P w = .ok ys.length w ∧ (Builtin.firstCells (Enc.k α) ys.length x).run P w = .ok (encL ys).toArray w
end enc

section
variable {P : Program} {n : Nat} {o : World} {Q : Exit → Act → World → Prop} {E : Env} {S : Hp} {L : List Asn}
variable {C : Env → Hp → List Asn → Prop} {ty t t' : TypeId} {pos : String} {aft : Array Edge} {x y z : Operand} {d : Nat}
variable {α : Type} [Enc α]

theorem Sls.src {v : Value} {xs : List α} (h : Sls S v xs) : Src P o S L v xs := fun w s => by
  obtain ⟨a, cap, rfl, h2, h3⟩ := h
  refine ⟨by simp [Builtin.lenOf], ?_⟩
  rcases h3 with rfl | ⟨b, off, rfl, arr, ty, fz, h4, h5⟩
  · cases a <;> simp [Builtin.firstCells, loadCells, loadCellsFrom, encL]
  · have := run_loadCells_blk (P := P) (encL xs) (s.stay _ _ h4) h5
    rw [length_encL] at this
    simp [Builtin.firstCells, this]
theorem Rw.src {k : Nat} {v : Value} {xs : List α} (hk : L[k]? = some (Rw v xs)) : Src P o S L v xs := fun w s => by
  obtain ⟨h1, a, hle, _⟩ := s.get hk
  rcases a with ⟨rfl, rfl⟩ | ⟨g, cap, cur, ty, fz, rfl, h3, h4, h5, ⟨junk, rfl⟩, h7⟩
  · exact ⟨by simp [Builtin.lenOf], by simp [Builtin.firstCells, encL]⟩
  · have := run_loadCells_blk (P := P) (off := 0) (encL xs) (hle _ _ h3) (fun j u q => by
      have := (List.getElem?_eq_some_iff.1 q).1
      simp [List.getElem?_append_left this, q])
    rw [length_encL] at this
    exact ⟨by simp [Builtin.lenOf], by simp [Builtin.firstCells, this]⟩

/-- The element type's row in the table. -/
structure ElT (P : Program) (t : TypeId) (α : Type) [Enc α] : Prop where
  e : ∃ el i z, P.underlying t = some (.slice el) ∧ P.info? el = some i ∧ i.size = Enc.k α ∧ i.bytes ≤ 32768 ∧ i.zero = some z ∧ z.cells.size = Enc.k α

theorem ElT.of {P : Program} {t : TypeId} {α : Type} [Enc α] {el : TypeId} (z : Value) (h1 : P.underlying t = some (.slice el)) (h2 : (P.info? el).map (·.size) = some (Enc.k α))
    (h3 : ((P.info? el).map fun i => decide (i.bytes ≤ 32768)) = some true) (h4 : (P.info? el).bind (·.zero) = some z) (h5 : z.cells.size = Enc.k α) : ElT P t α := by
  cases hq : P.info? el with
  | none => simp [hq] at h2
  | some i => simp [hq] at h2 h3 h4; exact ⟨el, i, z, h1, hq, h2, h3, h4, h5⟩

def LIM : Nat := 1073741824
def app (xs ys : List α) : Option (List α) := if xs.length + ys.length ≤ LIM then some (xs ++ ys) else none

/-- What an append's second argument may be: a slice or a string. -/
def SrcT (P : Program) (t : TypeId) : Prop := (∃ e, P.underlying t = some (.slice e)) ∨ P.underlying t = some .string

theorem run_append_none {ty' t2 el : TypeId} {xv : Value} {w : World} {k : Nat} (e1 : P.underlying t = some (.slice el)) (hu : SrcT P t2) (hsz : (sizeOf el).run P w = .ok k w)
    (q1 : (Builtin.lenOf xv).run P w = .ok 0 w) (q2 : (Builtin.firstCells k 0 xv).run P w = .ok #[] w) :
    (Builtin.append_ #[t, t2] ty' #[.slice none 0 0, xv]).run P w = .ok (.slice none 0 0) w := by
  rcases hu with ⟨e, hu⟩ | hu <;> simp [Builtin.append_, run_underlying e1, run_underlying hu, hsz, q1, q2]

theorem run_append_in {ty' t2 el : TypeId} {xv : Value} {w w' : World} {k g ln cap m : Nat} {new : Array Value} (e1 : P.underlying t = some (.slice el)) (hu : SrcT P t2) (hsz : (sizeOf el).run P w = .ok k w)
    (q1 : (Builtin.lenOf xv).run P w = .ok m w) (q2 : (Builtin.firstCells k m xv).run P w = .ok new w) (room : ln + m ≤ cap) (hst : (storeCells ⟨g, ln * k, none⟩ new.toList).run P w = .ok () w') :
    (Builtin.append_ #[t, t2] ty' #[.slice (some ⟨g, 0, none⟩) ln cap, xv]).run P w = .ok (.slice (some ⟨g, 0, none⟩) (ln + m) cap) w' := by
  rcases hu with ⟨e, hu⟩ | hu <;> simp [Builtin.append_, run_underlying e1, run_underlying hu, hsz, q1, q2, room, Addr.add_mid, hst]

theorem run_append_new {ty' t2 el : TypeId} {xv zz : Value} {i : TypeInfo} {w : World} {k ln cap m : Nat} {base : Option Addr} {old new : Array Value} (e1 : P.underlying t = some (.slice el)) (hu : SrcT P t2) (hi : P.info? el = some i)
    (hsz : i.size = k) (hz : i.zero = some zz)
    (q1 : (Builtin.lenOf xv).run P w = .ok m w) (q2 : (Builtin.firstCells k m xv).run P w.drew = .ok new w.drew) (q3 : (Builtin.firstCells k ln (.slice base ln cap)).run P w.drew = .ok old w.drew)
    (room : ¬ ln + m ≤ cap) (hfit : ¬ Builtin.nextslicecap (ln + m) cap * i.bytes > 2 ^ 48) (h64 : ¬ ((ln + m : Nat) : Int) > IntKind.i64.max) :
    ∃ newCap, ln + m ≤ newCap ∧ (Builtin.append_ #[t, t2] ty' #[.slice base ln cap, xv]).run P w =
      .ok (.slice (some ⟨w.heap.size, 0, none⟩) (ln + m) newCap) (w.drew.alloc (.cells (old ++ new ++ Builtin.zeroCells zz.cells (newCap - (ln + m))) el)) := by
  refine ⟨(Question.appendCap (ln + m) cap el).cut (w.tape w.drawn (.appendCap (ln + m) cap el)), by simp only [Question.cut]; omega, ?_⟩
  have h1 : ¬ (281474976710656 < Builtin.nextslicecap (ln + m) cap * i.bytes) := by simpa using hfit
  have h2 : ¬ (9223372036854775807 < ((ln : Int) + m)) := by simpa [IntKind.max, IntKind.bits, IntKind.signed] using h64
  have hs : (sizeOf el).run P w = .ok k w := run_sizeOf_of (by simp [hi, hsz])
  have hf : (Question.appendCap (ln + m) cap el).forced = false := rfl
  rcases hu with ⟨e, hu⟩ | hu <;>
    simp [Builtin.append_, run_underlying e1, run_underlying hu, hs, q1, q2, q3, room, typeInfo, hi, h1, h2, hf, zeroValue, hz, newRow, IntKind.max, IntKind.bits, IntKind.signed]

theorem run_append_own' {ty' : TypeId} {xv : Value} {t2 : TypeId} {xs ys : List α} {k : Nat} {v : Value} {w : World} (ht : ElT P t α) (hk : L[k]? = some (Rw v xs)) (hsrc : Src P o S L xv ys)
    (hu : SrcT P t2) (hl : xs.length + ys.length ≤ LIM) (s : Sat o S L w) :
    ∃ v' w', (Builtin.append_ #[t, t2] ty' #[v, xv]).run P w = .ok v' w' ∧ Sat o S (L.set k (Rw v' (xs ++ ys))) w' := by
  obtain ⟨el, i, zz, e1, e2, e3, e4, e5, e6⟩ := ht.e
  obtain ⟨q1, q2⟩ := hsrc w s
  obtain ⟨q1d, q2d⟩ := hsrc w.drew s.drew
  unfold LIM at hl
  have hsz : (sizeOf el).run P w = .ok (Enc.k α) w := run_sizeOf_of (by simp [e2, e3])
  obtain ⟨h1, a, hle, hnS⟩ := s.get hk
  -- the shape of what comes in
  have hv : ∃ base cap, v = .slice base xs.length cap ∧ xs.length ≤ cap := by
    rcases a with ⟨rfl, rfl⟩ | ⟨g, cap, cur, ty, fz, rfl, _, h4, _⟩
    · exact ⟨none, 0, rfl, Nat.le_refl _⟩
    · exact ⟨_, cap, rfl, h4⟩
  obtain ⟨base, cap, rfl, hcap⟩ := hv
  by_cases room : xs.length + ys.length ≤ cap
  · -- in place
    rcases a with ⟨h, rfl⟩ | ⟨g, cap', cur, ty, fz, h2', h3, h4, h5, ⟨junk, h6⟩, h7⟩
    · simp at h
      obtain ⟨rfl, rfl⟩ := h
      have : ys = [] := by simpa using room
      subst this
      refine ⟨.slice none 0 0, w, run_append_none e1 hu hsz q1 q2, ?_⟩
      exact s.turn (A' := Rw (.slice none 0 0) ([] : List α)) hk fun h1 a e => ⟨rfl, rfl, rfl, fun b x _ q => q, fun _ => none, .inl ⟨rfl, rfl⟩, fun b x q => by simp at q, fun b x q => by simp at q⟩
    · simp at h2'
      obtain ⟨rfl, rfl⟩ := h2'
      have h8 : cur.size = (encL xs).length + junk.length := by rw [h6]; simp
      have hjl : ys.length * Enc.k α ≤ junk.length := by
        have h9 := h8
        rw [length_encL, h5] at h9
        have := Nat.mul_le_mul_right (Enc.k α) room
        rw [Nat.add_mul] at this
        omega
      have hb : hp w g = some (.cells (encL xs ++ (junk.take (ys.length * Enc.k α) ++ junk.drop (ys.length * Enc.k α))).toArray ty fz) := by
        rw [List.take_append_drop, ← h6]; exact hle _ _ h3
      have hst := run_storeCells_blk (P := P) g ty fz (junk.drop (ys.length * Enc.k α)) (encL ys) (junk.take (ys.length * Enc.k α)) (encL xs) (xs.length * Enc.k α) 0 w hb
        (by rw [length_encL, List.length_take]; omega) (by rw [length_encL]; rfl) (fun j ha hc hfz => by
          have := h7 j hfz.1 hfz.2
          have l1 := length_encL xs
          have l2 := length_encL ys
          omega) (ok_encL ys)
      refine ⟨.slice (some ⟨g, 0, none⟩) (xs.length + ys.length) cap, _, run_append_in e1 hu hsz q1 q2 room (by simpa using hst), s.putBlk (A' := Rw (.slice (some ⟨g, 0, none⟩) (xs.length + ys.length) cap) (xs ++ ys)) hk (.cells (encL xs ++ (encL ys ++ junk.drop (ys.length * Enc.k α))).toArray ty fz) ?_⟩
      intro h1' a' e'
      rcases a' with ⟨h, _⟩ | ⟨g', cap'', cur', ty', fz', k1, k3, k4, k5, ⟨junk', k6⟩, k7⟩
      · simp at h
      · simp at k1
        obtain ⟨rfl, rfl⟩ := k1
        have hsame : hp w g = some (.cells cur' ty' fz') := e' _ _ k3
        rw [hle _ _ h3] at hsame
        simp at hsame
        obtain ⟨rfl, rfl, rfl⟩ := hsame
        refine ⟨⟨_, k3⟩, .inr ⟨g, cap, (encL xs ++ (encL ys ++ junk.drop (ys.length * Enc.k α))).toArray, ty, fz, by simp, by simp, by simpa using room, ?_, ⟨junk.drop (ys.length * Enc.k α), by simp [encL_append]⟩, ?_⟩⟩
        · have h9 := h8
          rw [h5, length_encL] at h9
          simp [length_encL]
          omega
        · intro j ja jb
          have := h7 j ja jb
          rw [h8, length_encL] at this
          simp [length_encL]
          omega
  · -- a new array
    have hlt : cap < xs.length + ys.length := by omega
    have hfit : ¬ Builtin.nextslicecap (xs.length + ys.length) cap * i.bytes > 2 ^ 48 := by
      have := growslice_fits (bytes := i.bytes) hlt (by have := Nat.mul_le_mul hl e4; omega)
      omega
    have hi64 : ¬ ((xs.length + ys.length : Nat) : Int) > IntKind.i64.max := by simp [IntKind.max, IntKind.bits, IntKind.signed]; omega
    have hold : (Builtin.firstCells (Enc.k α) xs.length (.slice base xs.length cap)).run P w.drew = .ok (encL xs).toArray w.drew := (Rw.src (P := P) hk w.drew s.drew).2
    obtain ⟨newCap, hge, hrun⟩ := run_append_new (ty' := ty') e1 hu e2 e3 e5 q1 q2d hold room hfit hi64
    generalize hcur : (encL xs).toArray ++ (encL ys).toArray ++ Builtin.zeroCells zz.cells (newCap - (xs.length + ys.length)) = cur at hrun
    have hsize : cur.size = newCap * Enc.k α := by
      have hz : (Builtin.zeroCells zz.cells (newCap - (xs.length + ys.length))).size = (newCap - (xs.length + ys.length)) * Enc.k α := by rw [size_zeroCells, e6]
      rw [← hcur]
      simp only [Array.size_append, List.size_toArray, length_encL, hz, ← Nat.add_mul]
      congr 1; omega
    have hcells : cur = (encL (xs ++ ys) ++ (Builtin.zeroCells zz.cells (newCap - (xs.length + ys.length))).toList).toArray := by
      rw [← hcur, encL_append]; simp
    have hA : Rw (.slice (some ⟨w.heap.size, 0, none⟩) (xs.length + ys.length) newCap) (xs ++ ys) (Hp.one w.heap.size (.cells cur el (0, 0))) := by
      have := Rw.mk1 (g := w.heap.size) (ty := el) (fz := (0, 0)) (xs := xs ++ ys) (cap := newCap) _ hcells hsize (by simpa using hge) (fun j _ hj => absurd hj (Nat.not_lt_zero j))
      rwa [List.length_append] at this
    refine ⟨_, _, hrun, s.turn hk fun h1 a e => ⟨rfl, rfl, rfl, fun b x _ q => hp_alloc_le w.drew _ b x q, Hp.one w.heap.size (.cells cur el (0, 0)), hA, ?_, ?_⟩⟩
    · intro b x q
      obtain ⟨rfl, rfl⟩ := Hp.one_some q
      exact hp_alloc_new w.drew _
    · intro b x q _
      obtain ⟨rfl, rfl⟩ := Hp.one_some q
      exact hp_size w

/-- append to a row of one's own. -/
theorem OS.append {t2 : TypeId} {v xv : Value} {xs ys : List α} (k : Nat) (hd : d < n) (hx : ev E x = some v) (hy : ev E y = some xv) (hk : L[k]? = some (Rw v xs)) (hsrc : Src P o S L xv ys)
    (ht : ElT P t α) (hu : SrcT P t2) (hl : xs.length + ys.length ≤ LIM)
    (h : ∀ v', C ((d, v') :: E) S (L.set k (Rw v' (xs ++ ys)))) : OS P n o Q ⟨some d, .call ⟨.builtin .append, #[x, y], #[t, t2]⟩, ty, pos, aft, none⟩ E S L C :=
  OS.gen hd fun a w f s => by
    obtain ⟨v', w', e1, e2⟩ := run_append_own' (ty' := ty) ht hk hsrc hu hl s
    refine ⟨v', w', ?_, S, _, e2, h v'⟩
    simp [execOp, resolve, f.eval hx, f.eval hy, invoke, builtin, e1]

end
end Go.Ch
end
section
/- More on slices and strings: elements, cuts, lengths, conversions, comparisons. -/
set_option linter.unusedVariables false
set_option linter.unusedSimpArgs false
namespace Go.Ch
open Go.RowKit (wrap64)
open Enc (sg)

section
variable {P : Program} {n : Nat} {o : World} {Q : Exit → Act → World → Prop} {E : Env} {S : Hp} {L : List Asn}
variable {C : Env → Hp → List Asn → Prop} {ty t t' : TypeId} {pos : String} {aft : Array Edge} {x y z : Operand} {d : Nat}
variable {α : Type} [Enc α]

/-! ### len -/
theorem Sls.len {v : Value} {xs : List α} (h : Sls S v xs) : ∃ a cap, v = .slice a xs.length cap := by obtain ⟨a, cap, e, _⟩ := h; exact ⟨a, cap, e⟩
theorem Y.lenS {v : Value} {xs : List α} (hx : ev E x = some v) (hv : Sls S v xs) (ht : SlcT P t (Enc.k α)) : Yld P n o E S L (.call ⟨.builtin .len, #[x], #[t]⟩) ty (.int .i64 (lenI xs)) :=
  fun a w f s _ _ _ _ => by
    obtain ⟨a', cap, e⟩ := hv.len
    obtain ⟨el, e1, _⟩ := ht.e
    subst e
    simp [execOp, resolve, f.eval hx, invoke, builtin, Builtin.len_, goInt, lenI, run_underlying e1]
theorem Y.lenR {v : Value} {xs : List α} (k : Nat) (hx : ev E x = some v) (hk : L[k]? = some (Rw v xs)) (ht : SlcT P t (Enc.k α)) : Yld P n o E S L (.call ⟨.builtin .len, #[x], #[t]⟩) ty (.int .i64 (lenI xs)) :=
  fun a w f s _ _ _ _ => by
    obtain ⟨h1, a', _, _⟩ := s.get hk
    have : ∃ b cap, v = .slice b xs.length cap := by
      rcases a' with ⟨rfl, rfl⟩ | ⟨g, cap, _, _, _, rfl, _⟩
      · exact ⟨_, _, rfl⟩
      · exact ⟨_, _, rfl⟩
    obtain ⟨b, cap, e⟩ := this
    obtain ⟨el, e1, _⟩ := ht.e
    subst e
    simp [execOp, resolve, f.eval hx, invoke, builtin, Builtin.len_, goInt, lenI, run_underlying e1]
/-! ### elements of a stable slice -/
theorem Sls.elem {v : Value} {xs : List α} (h : Sls S v xs) {i : Int} (h0 : 0 ≤ i) (h1 : i < lenI xs) :
    ∃ b off cap, v = .slice (some ⟨b, off, none⟩) xs.length cap ∧ At S b (off + i.toNat * Enc.k α) (cells (sg (getI xs i))) := by
  unfold lenI at h1
  obtain ⟨a, cap, e, _, h3⟩ := h
  rcases h3 with rfl | ⟨b, off, rfl, hat⟩
  · simp at h1; omega
  · refine ⟨b, off, cap, e, ?_⟩
    rw [encL_split xs i.toNat (by omega)] at hat
    have := hat.right.left
    rw [length_encL, List.length_take, Nat.min_eq_left (by omega)] at this
    rw [getI_eq xs i h0 h1]; exact this
theorem OS.idxS {v : Value} {xs : List α} {kd : IntKind} {i : Int} (hd : d < n) (hx : ev E x = some v) (hv : Sls S v xs) (hy : ev E y = some (.int kd i)) (ht : SlcT P t (Enc.k α))
    (hi : 0 ≤ i ∧ i < lenI xs) (h : ∀ b off, At S b off (cells (sg (getI xs i))) → C ((d, .pointer (some ⟨b, off, none⟩)) :: E) S L) :
    OS P n o Q ⟨some d, .indexAddr t x y, ty, pos, aft, none⟩ E S L C := by
  obtain ⟨b, off, cap, e, hat⟩ := hv.elem hi.1 hi.2
  subst e
  refine OS.val hd (fun a w f s => ?_) (h b _ hat)
  obtain ⟨el, e1, e2⟩ := ht.e
  have hi' : 0 ≤ i ∧ i < (xs.length : Int) := hi
  simp [execOp, f.eval hx, f.eval hy, Instr.indexAt, asIntOf, run_underlying e1, hi', run_sizeOf_of e2, Addr.add_mid]
theorem Y.loadS {b off w' : Nat} (r : List Seg) (hx : ev E x = some (.pointer (some ⟨b, off, none⟩))) (hat : At S b off (cells r)) (hT : RowT P t w') (hw : width r = w') : Yld P n o E S L (.load t x) ty (aggV r) :=
  fun a w f s _ _ _ _ => by
    obtain ⟨arr, ty', fz, e1, e2⟩ := hat
    simp only [execOp, f.eval hx]
    rw [Sem.run_bind, hT.run_load (cs := cells r) (s.stay _ _ e1) e2 (by rw [length_cells, hw])]; rfl
theorem Y.loadSV {b off : Nat} (v : Value) (hx : ev E x = some (.pointer (some ⟨b, off, none⟩))) (hat : At S b off [v]) (hT : OneT P t) : Yld P n o E S L (.load t x) ty (v) :=
  fun a w f s _ _ _ _ => by
    obtain ⟨arr, ty', fz, e1, e2⟩ := hat
    simp only [execOp, f.eval hx]
    rw [Sem.run_bind, hT.run_load (v := v) (s.stay _ _ e1) (by simpa using e2 0 v rfl)]; rfl
/-- A part of what is known at a place. -/
theorem At.part {b off : Nat} {segs : List Seg} (h : At S b off (cells segs)) (i m : Nat) (r : List Seg) (hr : (segs.drop i).take m = r) {off' : Nat} (ho : off + width (segs.take i) = off') : At S b off' (cells r) := by
  rw [cells_take_drop segs i, ← List.take_append_drop m (segs.drop i), hr, cells_append] at h
  have := h.right.left
  rw [length_cells, ho] at this; exact this
theorem At.val {b off : Nat} {v : Value} (h : At S b off (cells [sV v])) : At S b off [v] := by simpa [cells, sV] using h

/-! ### cuts -/
theorem Sls.sub {v : Value} {xs : List α} (h : Sls S v xs) {lo hi : Nat} (h1 : lo ≤ hi) (h2 : hi ≤ xs.length) :
    ∃ a cap, v = .slice a xs.length cap ∧ hi ≤ cap ∧ Sls S (.slice (if cap = lo then a else a.map (·.add (lo * Enc.k α))) (hi - lo) (cap - lo)) ((xs.drop lo).take (hi - lo)) := by
  obtain ⟨a, cap, e, hc, h3⟩ := h
  have hl : ((xs.drop lo).take (hi - lo)).length = hi - lo := by simp; omega
  refine ⟨a, cap, e, by omega, _, cap - lo, by rw [hl], by rw [hl]; omega, ?_⟩
  rcases h3 with rfl | ⟨b, off, rfl, hat⟩
  · exact .inl (by simp)
  · by_cases hc' : cap = lo
    · refine .inl ?_
      have : hi - lo = 0 := by omega
      rw [this]; simp
    · refine .inr ⟨b, off + lo * Enc.k α, by rw [if_neg hc']; simp [Addr.add_mid], ?_⟩
      have e1 : encL xs = encL (xs.take lo) ++ (encL ((xs.drop lo).take (hi - lo)) ++ encL ((xs.drop lo).drop (hi - lo))) := by
        rw [← encL_append, List.take_append_drop, ← encL_append, List.take_append_drop]
      rw [e1] at hat
      have := hat.right.left
      rw [length_encL, List.length_take, Nat.min_eq_left (by omega)] at this
      exact this

theorem run_sliceBound (k : IntKind) (i : Int) (y : Nat) (c : BoundsCode) (h0 : 0 ≤ i) (h1 : i ≤ y) (w : World) : (Instr.sliceBound (.int k i) y c).run P w = .ok i.toNat w := by
  have h : 0 ≤ i ∧ i ≤ (y : Int) := ⟨h0, h1⟩
  simp only [Instr.sliceBound, asIntOf, Sem.run_bind, Sem.run_pure, Result.andThen_ok]
  rw [if_pos h]; rfl
theorem run_sliceS {v : Value} {xs : List α} {t : TypeId} (hv : Sls S v xs) (ht : SlcT P t (Enc.k α)) (lo hi : Option Value) (l h' : Int)
    (hlo : lo = none ∧ l = 0 ∨ ∃ k, lo = some (.int k l)) (hhi : hi = none ∧ h' = lenI xs ∨ ∃ k, hi = some (.int k h')) (h1 : 0 ≤ l) (h2 : l ≤ h') (h3 : h' ≤ lenI xs) (w : World) :
    ∃ v', (Instr.sliceAt t v lo hi none).run P w = .ok v' w ∧ Sls S v' (cutL xs l h') := by
  unfold lenI at h3 hhi
  obtain ⟨a, cap, e, hc, hs⟩ := hv.sub (lo := l.toNat) (hi := h'.toNat) (by omega) (by omega)
  obtain ⟨el, e1, e2⟩ := ht.e
  subst e
  refine ⟨_, ?_, hs⟩
  have b1 : ∀ k c, (Instr.sliceBound (.int k h') cap c).run P w = .ok h'.toNat w := fun k c => run_sliceBound k h' cap c (by omega) (by omega) w
  have b2 : ∀ k c, (Instr.sliceBound (.int k l) h'.toNat c).run P w = .ok l.toNat w := fun k c => run_sliceBound k l _ c (by omega) (by omega) w
  rcases hlo with ⟨rfl, rfl⟩ | ⟨k1, rfl⟩ <;> rcases hhi with ⟨rfl, rfl⟩ | ⟨k2, rfl⟩ <;>
    (try simp only [Int.toNat_natCast] at b2) <;> simp [Instr.sliceAt, Instr.slice, run_underlying e1, run_sizeOf_of e2, Instr.sliceBounds, b1, b2]

theorem OS.sliceS {v : Value} {xs : List α} {lo hi : Option Operand} (l h' : Int) (lv hv' : Option Value) (hd : d < n) (hx : ev E x = some v) (hv : Sls S v xs) (ht : SlcT P t (Enc.k α))
    (hlo : lo.map (ev E) = lv.map some) (hhi : hi.map (ev E) = hv'.map some)
    (hl : lv = none ∧ l = 0 ∨ ∃ k, lv = some (.int k l)) (hh : hv' = none ∧ h' = lenI xs ∨ ∃ k, hv' = some (.int k h')) (hb : 0 ≤ l ∧ l ≤ h' ∧ h' ≤ lenI xs)
    (h : ∀ v', Sls S v' (cutL xs l h') → C ((d, v') :: E) S L) : OS P n o Q ⟨some d, .slice t x lo hi none, ty, pos, aft, none⟩ E S L C :=
  OS.gen hd fun a w f s => by
    obtain ⟨v', e1, e2⟩ := run_sliceS (P := P) hv ht lv hv' l h' hl hh hb.1 hb.2.1 hb.2.2 w
    refine ⟨v', w, ?_, S, L, s, h v' e2⟩
    have el : lo.map a.eval = lv := by
      cases lo <;> cases lv <;> simp at hlo ⊢
      exact f.eval hlo
    have eh : hi.map a.eval = hv' := by
      cases hi <;> cases hv' <;> simp at hhi ⊢
      exact f.eval hhi
    simp [execOp, f.eval hx, el, eh, e1]

/-! ### strings -/
theorem bytes_eq (s : Str) : (⟨s.toArray⟩ : ByteArray).toList = s := by rw [ByteArray.toList_eq]
theorem strV_size (s : Str) : (⟨s.toArray⟩ : ByteArray).size = s.length := by simp [ByteArray.size]

theorem Y.addStr {a b : Str} (hx : ev E x = some (strV a)) (hy : ev E y = some (strV b)) (hl : a.length + b.length ≤ LIM) : Yld P n o E S L (.binOp .add t x y t') ty (strV (a ++ b)) :=
  fun a' w f s _ _ _ _ => by
    unfold LIM at hl
    have h1 : ¬ ((a.length + b.length : Nat) : Int) > IntKind.i64.max := by simp [IntKind.max, IntKind.bits, IntKind.signed]; omega
    have h2 : (⟨a.toArray⟩ ++ ⟨b.toArray⟩ : ByteArray) = ⟨(a ++ b).toArray⟩ := by
      apply ByteArray.ext; simp
    have h1' : ¬ (((a.length + b.length : Nat) : Int) > 9223372036854775807) := by omega
    simp only [execOp, f.eval hx, f.eval hy, strV, eqGuard, binOp, Op.stringOp, strV_size, h2, Sem.run_bind]
    rw [if_neg h1]; rfl

/-- The six comparisons of strings. -/
def cmpS (op : BinOp) (a b : Str) : Bool :=
  match op with
  | .eql => a == b
  | .neq => !(a == b)
  | .lss => Op.bytesLess a b
  | .leq => Op.bytesLess a b || a == b
  | .gtr => !(Op.bytesLess a b || a == b)
  | _ => !Op.bytesLess a b
theorem Y.cmpStr {op : BinOp} {a b : Str} (hx : ev E x = some (strV a)) (hy : ev E y = some (strV b))
    (hop : op = .eql ∨ op = .neq ∨ op = .lss ∨ op = .leq ∨ op = .gtr ∨ op = .geq) : Yld P n o E S L (.binOp op t x y t') ty (.bool (cmpS op a b)) :=
  fun a' w f s _ _ _ _ => by
    simp only [execOp, f.eval hx, f.eval hy, strV]
    rcases hop with rfl | rfl | rfl | rfl | rfl | rfl <;> simp [eqGuard, binOp, Op.stringOp, bytes_eq, cmpS]
theorem Y.eqStr {a b : Str} (hx : ev E x = some (strV a)) (hy : ev E y = some (strV b)) : Yld P n o E S L (.binOp .eql t x y t') ty (.bool (a == b)) := Y.cmpStr hx hy (by simp)
structure StrTy (P : Program) (t : TypeId) : Prop where
  e : P.underlying t = some .string
theorem Y.lenStr {v : Str} (hx : ev E x = some (strV v)) (ht : StrTy P t) : Yld P n o E S L (.call ⟨.builtin .len, #[x], #[t]⟩) ty (.int .i64 (lenI v)) :=
  fun a w f s _ _ _ _ => by
    have e := strV_size v
    unfold strV at hx
    simp [execOp, resolve, f.eval hx, invoke, builtin, Builtin.len_, goInt, lenI, run_underlying ht.e, e]

theorem Y.indexStr {a : Str} {kd : IntKind} {i : Int} (hx : ev E x = some (strV a)) (hy : ev E y = some (.int kd i)) (ht : StrTy P t) (hi : 0 ≤ i ∧ i < lenI a) : Yld P n o E S L (.index t x y) ty (u8V (getI a i)) :=
  fun a' w f s _ _ _ _ => by
    unfold lenI at hi
    have hlt : i.toNat < a.length := by omega
    have e : (⟨a.toArray⟩ : ByteArray)[i.toNat]? = some a[i.toNat] := by
      rw [getElem?_pos _ _ (by simp [ByteArray.size]; exact hlt)]
      rfl
    have e2 : getI a i = a[i.toNat] := by unfold getI; rw [List.getD_eq_getElem?_getD, List.getElem?_eq_getElem hlt]; rfl
    simp only [execOp, f.eval hx, f.eval hy, strV, Instr.index, asIntOf, Sem.run_bind, Sem.run_pure, Result.andThen_ok, run_underlying ht.e]
    rw [if_pos hi.1, e, e2]; rfl

theorem extract_str (s : Str) (l h : Nat) : (⟨s.toArray⟩ : ByteArray).extract l h = ⟨((s.drop l).take (h - l)).toArray⟩ := by
  apply ByteArray.ext
  simp [ByteArray.data_extract]
theorem Y.sliceStr {a : Str} {lo hi : Option Operand} (l h' : Int) (lv hv' : Option Value) (hx : ev E x = some (strV a)) (ht : StrTy P t)
    (hlo : lo.map (ev E) = lv.map some) (hhi : hi.map (ev E) = hv'.map some)
    (hl : lv = none ∧ l = 0 ∨ ∃ k, lv = some (.int k l)) (hh : hv' = none ∧ h' = lenI a ∨ ∃ k, hv' = some (.int k h')) (hb : 0 ≤ l ∧ l ≤ h' ∧ h' ≤ lenI a) : Yld P n o E S L (.slice t x lo hi none) ty (strV (cutL a l h')) :=
  fun a' w f s _ _ _ _ => by
    unfold lenI at hb hh
    have el : lo.map a'.eval = lv := by
      cases lo <;> cases lv <;> simp at hlo ⊢
      exact f.eval hlo
    have eh : hi.map a'.eval = hv' := by
      cases hi <;> cases hv' <;> simp at hhi ⊢
      exact f.eval hhi
    have b1 : ∀ k c, (Instr.sliceBound (.int k h') a.length c).run P w = .ok h'.toNat w := fun k c => run_sliceBound k h' _ c (by omega) (by omega) w
    have b2 : ∀ k c, (Instr.sliceBound (.int k l) h'.toNat c).run P w = .ok l.toNat w := fun k c => run_sliceBound k l _ c (by omega) (by omega) w
    simp only [execOp, f.eval hx, el, eh, strV, Instr.sliceAt, Instr.slice, Sem.run_bind, run_underlying ht.e, Result.andThen_ok]
    rcases hl with ⟨rfl, rfl⟩ | ⟨k1, rfl⟩ <;> rcases hh with ⟨rfl, rfl⟩ | ⟨k2, rfl⟩ <;>
      (try simp only [Int.toNat_natCast] at b2) <;> simp [Instr.sliceBounds, b1, b2, strV_size, extract_str, cutL]

/-! ### conversions -/
theorem Y.convI {k k' : IntKind} {i : Int} (v : Value) (hx : ev E x = some (.int k i)) (ht : ∃ d, P.underlying t = some d) (ht' : P.underlying t' = some (.int k')) (hv : .int k' (k'.wrap i) = v) : Yld P n o E S L (.convert t t' x) ty (v) :=
  fun a w f s _ _ _ _ => by
    obtain ⟨d1, e1⟩ := ht
    simp only [execOp, f.eval hx, convert, Sem.run_bind, run_underlying e1, run_underlying ht', Result.andThen_ok]
    rw [← hv]
    cases d1 <;> simp [Conv.intToInt]

instance : Enc UInt8 where
  default := 0
  sg x := [sV (u8V x)]
  k := 1
  pos := by omega
  hk x := rfl
  ok x := by intro v hv; simp [cells, sV] at hv; subst hv; rfl
theorem encL_u8 (s : Str) : encL s = s.map u8V := by induction s <;> simp_all [encL, cells, sV, sg]

theorem foldl_push : ∀ (l : List UInt8) (acc : Array UInt8),
    (l.map fun c => (c.toNat : Int)).foldl (fun (r : ByteArray) n => r.push (UInt8.ofNat n.toNat)) ⟨acc⟩ = ⟨acc ++ l.toArray⟩
  | [], acc => by simp
  | c :: l, acc => by
    have := foldl_push l (acc.push c)
    have e : UInt8.ofNat ((c.toNat : Int)).toNat = c := by simp
    rw [List.map_cons, List.foldl_cons, e]
    show List.foldl _ (⟨acc.push c⟩ : ByteArray) _ = _
    rw [this]; simp

end
end Go.Ch
end
section
/- More rules: bytes to strings, rows of one's own read and written, new rows, arrays of literals, comparisons of arrays. -/
set_option linter.unusedVariables false
set_option linter.unusedSimpArgs false
namespace Go.Ch
open Go.RowKit (wrap64)
open Enc (sg)

section
variable {P : Program} {n : Nat} {o : World} {Q : Exit → Act → World → Prop} {E : Env} {S : Hp} {L : List Asn}
variable {C : Env → Hp → List Asn → Prop} {ty t t' : TypeId} {pos : String} {aft : Array Edge} {x y z : Operand} {d : Nat}
variable {α : Type} [Enc α]

/-! ### bytes to strings -/
theorem run_bytesToStr {w : World} {a : Addr} {s : Str} {cap : Nat} (h : (loadCells a s.length).run P w = .ok (encL s).toArray w) :
    (Conv.bytesToString (.slice (some a) s.length cap)).run P w = .ok (strV s) w := by
  have e := foldl_push s #[]
  rw [run_bytesToString w a s.length cap (s.map fun c => (c.toNat : Int)) (by rw [h, encL_u8, List.map_map]; rfl)]
  have e2 : (ByteArray.empty) = ⟨#[]⟩ := rfl
  rw [e2, e]
  simp [strV]
def BSrc (P : Program) (o : World) (S : Hp) (L : List Asn) (v : Value) (s : Str) : Prop := ∀ w, Sat o S L w → (Conv.bytesToString v).run P w = .ok (strV s) w
theorem BSrc.of {v : Value} {s : Str} (h : Src P o S L v s) (hs : ∃ a cap, v = .slice a s.length cap) : BSrc P o S L v s := fun w st => by
  obtain ⟨a, cap, rfl⟩ := hs
  obtain ⟨_, h2⟩ := h w st
  cases a with
  | none =>
    have : (encL s).toArray = #[] := by
      have := h2; simp [Builtin.firstCells] at this; exact this.symm ▸ rfl
    have h3 : s = [] := by
      cases s with
      | nil => rfl
      | cons c s => rw [encL_cons] at this; simp [cells, sV, sg] at this
    subst h3; rfl
  | some a =>
    refine run_bytesToStr ?_
    have : s.length * Enc.k UInt8 = s.length := by simp [Enc.k]
    simpa [Builtin.firstCells, this] using h2
theorem Sls.bsrc {v : Value} {s : Str} (h : Sls S v s) : BSrc P o S L v s := BSrc.of h.src (by obtain ⟨a, cap, e, _⟩ := h; exact ⟨a, cap, e⟩)
theorem Rw.bsrc {k : Nat} {v : Value} {s : Str} (hk : L[k]? = some (Rw v s)) : BSrc P o S L v s := fun w st => by
  refine BSrc.of (Rw.src hk) ?_ w st
  obtain ⟨h1, a', _, _⟩ := st.get hk
  rcases a' with ⟨rfl, rfl⟩ | ⟨g, cap, _, _, _, rfl, _⟩
  · exact ⟨_, _, rfl⟩
  · exact ⟨_, _, rfl⟩

structure BytesT (P : Program) (t : TypeId) : Prop where
  e : ∃ el, P.underlying t = some (.slice el) ∧ P.underlying el = some (.int .u8)
theorem Y.convBS {v : Value} {s : Str} (hx : ev E x = some v) (hv : BSrc P o S L v s) (ht : BytesT P t) (ht' : StrTy P t')  : Yld P n o E S L (.convert t t' x) ty (strV s) :=
  fun a w f st _ _ _ _ => by
    obtain ⟨el, e1, e2⟩ := ht.e
    have e3 := hv w st
    simp only [execOp, f.eval hx, convert, Sem.run_bind, run_underlying e1, run_underlying ht'.e, Result.andThen_ok]
    cases v <;> simp [run_underlying e2, e3] <;> simp [Conv.bytesToString] at e3

/-- A whole array in memory of one's own, as a slice; what a conversion reads there. -/
theorem Y.sliceArr {b off len k : Nat} (hx : ev E x = some (.pointer (some ⟨b, off, none⟩))) (ht : ArrT P t len k) (hl : 0 < len) : Yld P n o E S L (.slice t x none none none) ty (.slice (some ⟨b, off, none⟩) len len) :=
  fun a w f s _ _ _ _ => by
    obtain ⟨el, e1, e2⟩ := ht.e
    have : ¬ len = 0 := by omega
    simp [execOp, f.eval hx, Instr.sliceAt, run_underlying e1, Instr.sureAddr, Instr.sliceBounds, run_sizeOf_of e2, Addr.add_mid, this]
theorem Blk.src {k i : Nat} {b off len cap : Nat} {segs : List Seg} {ys : List α} (hk : L[k]? = some (Blk b segs)) (sg : Seg) (hr : segs[i]? = some sg) (hoff : width (segs.take i) = off)
    (hl : len = ys.length) (hs : sg.cs.toList.take (len * Enc.k α) = encL ys) : Src P o S L (.slice (some ⟨b, off, none⟩) len cap) ys := fun w s => by
  subst hl
  obtain ⟨h1, ⟨ty', hb⟩, hle, _⟩ := s.get hk
  refine ⟨by simp [Builtin.lenOf], ?_⟩
  have hd' : segs.drop i = sg :: segs.drop (i + 1) := by
    obtain ⟨hlt, e⟩ := List.getElem?_eq_some_iff.1 hr
    rw [List.drop_eq_getElem_cons hlt, e]
  have := run_loadCells_blk (P := P) (off := off) (encL ys) (hle _ _ hb) (fun j u q => by
    rw [cells_take_drop segs i, hd', cells_cons, ← hoff, ← length_cells]
    simp only [List.getElem?_toArray]
    rw [List.getElem?_append_right (by omega), show (cells (segs.take i)).length + j - (cells (segs.take i)).length = j from by omega]
    rw [← hs] at q
    have hj := (List.getElem?_eq_some_iff.1 q).1
    rw [List.getElem?_append_left (by simp at hj; simp; omega)]
    rw [List.getElem?_take_of_lt (by simp at hj; omega)] at q
    exact q)
  rw [length_encL] at this
  simp [Builtin.firstCells, this]
theorem toList_sL (l : Lab) : (sL l).cs.toList = encL l.toList := by rw [encL_u8]; simp [sL, Vector.toList_map]
theorem Blk.srcLab {k i : Nat} {b off : Nat} {segs : List Seg} {l : Lab} (hk : L[k]? = some (Blk b segs)) (hr : segs[i]? = some (sL l)) (hoff : width (segs.take i) = off) :
    Src P o S L (.slice (some ⟨b, off, none⟩) 32 32) l.toList :=
  Blk.src hk _ hr hoff (by simp) (by rw [toList_sL, List.take_of_length_le (by rw [length_encL]; simp)])
theorem Blk.bsrcLab {k i : Nat} {b off : Nat} {segs : List Seg} {l : Lab} (hk : L[k]? = some (Blk b segs)) (hr : segs[i]? = some (sL l)) (hoff : width (segs.take i) = off) :
    BSrc P o S L (.slice (some ⟨b, off, none⟩) 32 32) l.toList := BSrc.of (Blk.srcLab hk hr hoff) ⟨some ⟨b, off, none⟩, 32, by simp⟩
/-- A string as the source of an append. -/
theorem strV.src {s : Str} : Src P o S L (strV s) s := fun w st => by
  refine ⟨by simp [Builtin.lenOf, strV, ByteArray.size], ?_⟩
  simp only [Builtin.firstCells, strV, extract_str, encL_u8, Sem.run_pure]
  have : (s.drop 0).take (s.length - 0) = s := by simp
  rw [this]
  congr 1
  simp [u8V]

/-! ### own rows: elements -/
theorem OS.idxR {v : Value} {xs : List α} {kd : IntKind} {i : Int} (k : Nat) (hd : d < n) (hx : ev E x = some v) (hk : L[k]? = some (Rw v xs)) (hy : ev E y = some (.int kd i)) (ht : SlcT P t (Enc.k α))
    (hi : 0 ≤ i ∧ i < lenI xs) (h : ∀ g cap, v = .slice (some ⟨g, 0, none⟩) xs.length cap → C ((d, .pointer (some ⟨g, i.toNat * Enc.k α, none⟩)) :: E) S L) :
    OS P n o Q ⟨some d, .indexAddr t x y, ty, pos, aft, none⟩ E S L C :=
  OS.gen hd fun a w f s => by
    obtain ⟨h1, a', _, _⟩ := s.get hk
    have hi' : 0 ≤ i ∧ i < (xs.length : Int) := hi
    rcases a' with ⟨rfl, rfl⟩ | ⟨g, cap, _, _, _, rfl, _⟩
    · simp at hi'; omega
    · obtain ⟨el, e1, e2⟩ := ht.e
      refine ⟨_, w, ?_, S, L, s, h g cap rfl⟩
      simp [execOp, f.eval hx, f.eval hy, Instr.indexAt, asIntOf, run_underlying e1, hi', run_sizeOf_of e2, Addr.add_mid]

theorem Rw.elem {v : Value} {xs : List α} {w : World} {k g ln cap : Nat} (s : Sat o S L w) (hk : L[k]? = some (Rw v xs)) (hv : v = .slice (some ⟨g, 0, none⟩) ln cap) {i : Int} (h0 : 0 ≤ i) (hi : i < lenI xs) :
    ∃ pre post ty fz, hp w g = some (.cells (pre ++ (cells (sg (getI xs i)) ++ post)).toArray ty fz) ∧ pre.length = i.toNat * Enc.k α ∧ (∀ j, fz.1 ≤ j → j < fz.2 → (pre ++ (cells (sg (getI xs i)) ++ post)).length ≤ j) ∧
      ln = xs.length ∧ xs.length ≤ cap ∧ (pre ++ (cells (sg (getI xs i)) ++ post)).length = cap * Enc.k α ∧ pre = encL (xs.take i.toNat) ∧ ∃ junk, post = encL (xs.drop (i.toNat + 1)) ++ junk := by
  unfold lenI at hi
  obtain ⟨h1, a', hle, _⟩ := s.get hk
  subst hv
  rcases a' with ⟨h, _⟩ | ⟨g', cap', cur, ty', fz, e, h3, h4, h5, ⟨junk, rfl⟩, h7⟩
  · simp at h
  · simp at e
    obtain ⟨rfl, rfl, rfl⟩ := e
    have hsp := encL_split xs i.toNat (by omega)
    have e2 : encL xs ++ junk = encL (xs.take i.toNat) ++ (cells (sg (getI xs i)) ++ (encL (xs.drop (i.toNat + 1)) ++ junk)) := by
      rw [getI_eq xs i h0 hi]
      conv => lhs; rw [hsp]
      simp only [List.append_assoc]
    refine ⟨encL (xs.take i.toNat), encL (xs.drop (i.toNat + 1)) ++ junk, ty', fz, by rw [← e2]; exact hle _ _ h3, by rw [length_encL, List.length_take, Nat.min_eq_left (by omega)], ?_, rfl, h4, by rw [← e2]; simpa using h5, rfl, junk, rfl⟩
    intro j a b
    have := h7 j a b
    rw [← e2]; simpa using this

theorem Y.loadRow {v : Value} {xs : List α} {g ln cap off w' : Nat} (k : Nat) (i : Int) (j m : Nat) (r : List Seg) (hx : ev E x = some (.pointer (some ⟨g, off, none⟩))) (hk : L[k]? = some (Rw v xs))
    (hv : v = .slice (some ⟨g, 0, none⟩) ln cap) (hi : 0 ≤ i ∧ i < lenI xs) (hr : ((sg (getI xs i)).drop j).take m = r) (hoff : i.toNat * Enc.k α + width ((sg (getI xs i)).take j) = off)
    (hT : RowT P t w') (hw : width r = w')  : Yld P n o E S L (.load t x) ty (aggV r) :=
  fun a w f s _ _ _ _ => by
    obtain ⟨pre, post, ty', fz, e1, e2, _⟩ := Rw.elem s hk hv hi.1 hi.2
    simp only [execOp, f.eval hx]
    rw [Sem.run_bind, hT.run_load (cs := cells r) e1 ?_ (by rw [length_cells, hw])]; rfl
    intro q u e
    rw [cells_take_drop (sg (getI xs i)) j, ← List.take_append_drop m ((sg (getI xs i)).drop j), hr, cells_append, ← hoff, ← e2, ← length_cells]
    have := (List.getElem?_eq_some_iff.1 e).1
    simp only [List.getElem?_toArray, List.append_assoc]
    rw [List.getElem?_append_right (by omega), List.getElem?_append_right (by omega), List.getElem?_append_left (by omega)]
    simpa [Nat.add_assoc, Nat.add_sub_cancel_left] using e
theorem Y.loadRowV {v u : Value} {xs : List α} {g ln cap off : Nat} (k : Nat) (i : Int) (j : Nat) (hx : ev E x = some (.pointer (some ⟨g, off, none⟩))) (hk : L[k]? = some (Rw v xs))
    (hv : v = .slice (some ⟨g, 0, none⟩) ln cap) (hi : 0 ≤ i ∧ i < lenI xs) (hr : (sg (getI xs i))[j]? = some (sV u)) (hoff : i.toNat * Enc.k α + width ((sg (getI xs i)).take j) = off)
    (hT : OneT P t)  : Yld P n o E S L (.load t x) ty (u) :=
  fun a w f s _ _ _ _ => by
    obtain ⟨pre, post, ty', fz, e1, e2, _⟩ := Rw.elem s hk hv hi.1 hi.2
    simp only [execOp, f.eval hx]
    rw [Sem.run_bind, hT.run_load (v := u) e1 ?_]; rfl
    have hd' : (sg (getI xs i)).drop j = sV u :: (sg (getI xs i)).drop (j + 1) := by
      obtain ⟨hlt, e⟩ := List.getElem?_eq_some_iff.1 hr
      rw [List.drop_eq_getElem_cons hlt, e]
    rw [cells_take_drop (sg (getI xs i)) j, hd', cells_cons, ← hoff, ← e2, ← length_cells]
    simp [sV]

/-- A whole element is written. -/
theorem OS.storeRow {v u : Value} {xs : List α} {g ln cap off : Nat} (k : Nat) (i : Int) (x' : α) (hx : ev E x = some (.pointer (some ⟨g, off, none⟩))) (hy : ev E y = some u) (hu : u.cells.toList = cells (sg x'))
    (hk : L[k]? = some (Rw v xs)) (hv : v = .slice (some ⟨g, 0, none⟩) ln cap) (hi : 0 ≤ i ∧ i < lenI xs) (hoff : i.toNat * Enc.k α = off) (hs : (P.info? t).map (·.size) = some (Enc.k α))
    (h : C E S (L.set k (Rw v (xs.set i.toNat x')))) : OS P n o Q ⟨none, .store t x y, ty, pos, aft, none⟩ E S L C :=
  OS.genS fun a w f s => by
    obtain ⟨pre, post, ty', fz, e1, e2, e3, e4, e5, e6, e7, junk, e8⟩ := Rw.elem s hk hv hi.1 hi.2
    have hlen : (cells (sg (getI xs i))).length = Enc.k α := by rw [length_cells, Enc.hk]
    have hlen' : (cells (sg x')).length = Enc.k α := by rw [length_cells, Enc.hk]
    have hi2 := hi.2; unfold lenI at hi2
    refine ⟨_, ?_, S, _, s.putBlk (b := g) (A' := Rw v (xs.set i.toNat x')) hk (.cells (pre ++ (cells (sg x') ++ post)).toArray ty' fz) ?_, h⟩
    · simp only [execOp, f.eval hx, f.eval hy]
      rw [Sem.run_bind, run_store_at hs e1 (by rw [e2, hoff]) hlen (by rw [hu, hlen']) (by rw [hu]; exact Enc.ok x') (fun j ha hb hf => by
        have := e3 j hf.1 hf.2
        simp only [List.length_append, hlen] at this
        omega), hu]
      rfl
    · intro h1 a' hle
      subst hv
      rcases a' with ⟨h, _⟩ | ⟨g', cap', cur, ty2, fz2, e, h3, h4, h5, ⟨junk2, h6⟩, h7⟩
      · simp at h
      · simp at e
        obtain ⟨rfl, rfl, rfl⟩ := e
        have hsame := hle _ _ h3
        rw [e1] at hsame
        simp at hsame
        obtain ⟨hc, rfl, rfl⟩ := hsame
        have hset : encL (xs.set i.toNat x') = encL (xs.take i.toNat) ++ (cells (sg x') ++ encL (xs.drop (i.toNat + 1))) := by
          rw [set_split x' xs i.toNat (by omega), encL_append, encL_append, encL_cons, encL_nil, List.append_nil]
        refine ⟨⟨_, h3⟩, .inr ⟨g, cap, (pre ++ (cells (sg x') ++ post)).toArray, ty', fz, by simp, by simp, by simpa using h4, ?_, ⟨junk, ?_⟩, ?_⟩⟩
        · have := e6
          simp only [List.length_append, hlen] at this
          simp only [List.size_toArray, List.length_append, hlen']
          exact this
        · rw [hset, e7, e8]; simp only [List.append_assoc]
        · intro j ja jb
          have := e3 j ja jb
          simp only [List.length_append, hlen] at this
          simp only [List.size_toArray, List.length_append, hlen']
          exact this

/-! ### new rows -/
theorem fill_seq (size : Nat) (css : List (List Value)) (hc : ∀ c ∈ css, c.length = size) : ∀ (vs : List Value) (pre old : List Value) (j : Nat), vs.map (fun v => v.cells.toList) = css → old.length = css.length * size → pre.length = j * size →
    Instr.fill (fun i => some (i * size, size)) (pre ++ old).toArray (vs.zipIdx j |>.map fun p => (p.2, p.1)) = some (pre ++ css.flatten).toArray := by
  induction css with
  | nil => intro vs pre old j h hl hp'
           have : vs = [] := by simpa using h
           have : old = [] := by simpa using hl
           subst_vars; simp [Instr.fill]
  | cons c css ih =>
    intro vs pre old j h hl hp'
    cases vs with
    | nil => simp at h
    | cons v vs =>
      simp at h
      have hcl : c.length = size := hc c (by simp)
      have ho : old = old.take size ++ old.drop size := (List.take_append_drop _ _).symm
      have hl2 : old.length = (css.length + 1) * size := by simpa using hl
      rw [Nat.add_mul] at hl2
      rw [List.zipIdx_cons, List.map_cons, ho]
      rw [fill_step (r := c) (off := j * size) (size := size) rfl (by rw [← h.1]) hcl hp' (by rw [List.length_take]; omega)]
      have := ih (fun c hc' => hc c (by simp [hc'])) vs (pre ++ c) (old.drop size) (j + 1) h.2 (by rw [List.length_drop]; omega) (by rw [List.length_append, hp', hcl, Nat.add_mul]; omega)
      rw [List.append_assoc] at this
      rw [this]; simp

/-- A slice's literal, all of its elements written. -/
theorem OS.buildSlice {parts : List (Nat × Operand)} {len : Nat} (xs : List α) (vs : List Value) (hd : d < n) (ht : ElT P t α) (hlen : len = xs.length) (hl : xs.length * Enc.k α ≤ 16777216)
    (hp' : ∀ a : Act, Fits n E a → parts.map (fun p => (p.1, a.eval p.2)) = vs.zipIdx.map fun p => (p.2, p.1)) (hv : vs.map (fun v => v.cells.toList) = xs.map fun x => cells (sg x))
    (h : ∀ v, C ((d, v) :: E) S (Rw v xs :: L)) : OS P n o Q ⟨some d, .buildSlice t len parts.toArray, ty, pos, aft, none⟩ E S L C :=
  OS.gen hd fun a w f s => by
    obtain ⟨el, i, zz, e1, e2, e3, e4, e5, e6⟩ := ht.e
    subst hlen
    have hsz : (sizeOf el).run P w = .ok (Enc.k α) w := run_sizeOf_of (by simp [e2, e3])
    have hz : (zeroValue el).run P w = .ok zz w := by simp [zeroValue, typeInfo, e2, e5]
    have e8 : (parts.toArray.map fun (i, x) => (i, a.eval x)).toList = vs.zipIdx.map fun p => (p.2, p.1) := by rw [← hp' a f]; simp
    have hfill : ∀ zero : Array Value, Instr.fill (fun i => some (i * Enc.k α, Enc.k α)) ((Array.range (xs.length * Enc.k α)).map (zero[· % zero.size]!)) (vs.zipIdx.map fun p => (p.2, p.1)) = some (encL xs).toArray := by
      intro zero
      have := fill_seq (Enc.k α) (xs.map fun x => cells (sg x)) (fun c hc => by simp at hc; obtain ⟨x, _, rfl⟩ := hc; rw [length_cells, Enc.hk]) vs [] ((Array.range (xs.length * Enc.k α)).map (zero[· % zero.size]!)).toList 0 hv (by simp) (by simp)
      simp only [List.nil_append, Array.toArray_toList] at this
      rw [this]; rfl
    have hA : Rw (.slice (some ⟨w.heap.size, 0, none⟩) xs.length xs.length) xs (Hp.one w.heap.size (.cells (encL xs).toArray el (0, 0))) :=
      Rw.mk1 [] (by simp) (by simp [length_encL]) (Nat.le_refl _) (fun j _ hj => absurd hj (Nat.not_lt_zero j))
    refine ⟨_, w.alloc (.cells (encL xs).toArray el), ?_, S, _, s.alloc _ hA, h _⟩
    have hlim : ¬ (xs.length * Enc.k α > 2 ^ 24) := by omega
    simp only [execOp, Instr.buildSlice, Sem.run_bind, run_underlying e1, Result.andThen_ok, hsz, Sem.run_ite]
    rw [if_neg hlim]
    by_cases h0 : xs.length * Enc.k α = 0
    · simp only [if_pos h0, Sem.run_pure, Result.andThen_ok, e8, hfill, newRow, Sem.run_bind, run_newObj, World.alloc_eq]
    · simp only [if_neg h0, Sem.run_pure, Sem.run_bind, hz, Result.andThen_ok, e8, hfill, newRow, run_newObj, World.alloc_eq]

end
end Go.Ch
end
section
/- Loops by a step function, joints, regions that draw their order. -/
set_option linter.unusedVariables false
set_option linter.unusedSimpArgs false
namespace Go.Ch
open Go.RowKit (wrap64)
open Enc (sg)

/-! ### models of loops -/
section iter
variable {σ β : Type}
def iterN (step : σ → Option (σ ⊕ β)) : Nat → σ → Option β
  | 0, _ => none
  | k + 1, s => match step s with
    | none => none
    | some (.inl s') => iterN step k s'
    | some (.inr b) => some b
open Classical in
noncomputable def iter (step : σ → Option (σ ⊕ β)) (s : σ) : Option β := if h : ∃ b k, iterN step k s = some b then some h.choose else none
theorem iterN_mono (step : σ → Option (σ ⊕ β)) : ∀ (k j : Nat) (s : σ) (b : β), k ≤ j → iterN step k s = some b → iterN step j s = some b
  | 0, _, _, _, _, h => by simp [iterN] at h
  | k + 1, 0, _, _, hj, _ => by omega
  | k + 1, j + 1, s, b, hj, h => by
    simp only [iterN] at h ⊢
    cases hs : step s with
    | none => rw [hs] at h; simp at h
    | some x =>
      rw [hs] at h
      cases x with
      | inl s' => exact iterN_mono step k j s' b (by omega) h
      | inr b' => exact h
theorem iter_some {step : σ → Option (σ ⊕ β)} {s : σ} {b : β} : iter step s = some b ↔ ∃ k, iterN step k s = some b := by
  unfold iter
  constructor
  · intro h
    split at h
    · rename_i hx
      obtain ⟨k, hk⟩ := hx.choose_spec
      simp at h; rw [h] at hk; exact ⟨k, hk⟩
    · simp at h
  · rintro ⟨k, hk⟩
    have hx : ∃ b k, iterN step k s = some b := ⟨b, k, hk⟩
    rw [dif_pos hx]
    obtain ⟨j, hj⟩ := hx.choose_spec
    have e1 := iterN_mono step k (max k j) s b (Nat.le_max_left _ _) hk
    have e2 := iterN_mono step j (max k j) s _ (Nat.le_max_right _ _) hj
    rw [e1] at e2; simp at e2; simp [← e2]
theorem iter_eq (step : σ → Option (σ ⊕ β)) (s : σ) : iter step s = (step s).bind fun x => match x with | .inl s' => iter step s' | .inr b => some b := by
  apply Option.ext
  intro b
  rw [iter_some]
  cases hs : step s with
  | none =>
    simp
    intro k
    cases k <;> simp [iterN, hs]
  | some x =>
    cases x with
    | inl s' =>
      simp only [Option.bind_some]
      rw [iter_some]
      constructor
      · rintro ⟨k, hk⟩
        cases k with
        | zero => simp [iterN] at hk
        | succ k => simp [iterN, hs] at hk; exact ⟨k, hk⟩
      · rintro ⟨k, hk⟩; exact ⟨k + 1, by simp [iterN, hs, hk]⟩
    | inr b' =>
      simp only [Option.bind_some]
      constructor
      · rintro ⟨k, hk⟩
        cases k with
        | zero => simp [iterN] at hk
        | succ k => simpa [iterN, hs] using hk
      · intro h; exact ⟨1, by simpa [iterN, hs] using h⟩
end iter

/-- What must hold for the way to go on. -/
def req (c : Prop) [Decidable c] : Option Unit := if c then some () else none
theorem req_bind {c : Prop} [Decidable c] {α : Type} {f : Unit → Option α} {r : α} (h : (req c).bind f = some r) : c ∧ f () = some r := by
  unfold req at h; by_cases hc : c
  · rw [if_pos hc] at h; exact ⟨hc, h⟩
  · rw [if_neg hc] at h; simp at h
theorem bind_some' {α β : Type} {x : Option α} {f : α → Option β} {r : β} (h : x.bind f = some r) : ∃ a, x = some a ∧ f a = some r := by
  cases x with
  | none => simp at h
  | some a => exact ⟨a, rfl, h⟩
theorem ite_t {α : Type} {c : Bool} {x y : Option α} {r : α} (hc : c = true) (h : (if c = true then x else y) = some r) : x = some r := by rwa [if_pos hc] at h
theorem ite_f {α : Type} {c : Bool} {x y : Option α} {r : α} (hc : c = false) (h : (if c = true then x else y) = some r) : y = some r := by rwa [if_neg (by simp [hc])] at h

section
variable {P : Program} {n : Nat} {o : World} {Q : Exit → Act → World → Prop} {E : Env} {S : Hp} {L : List Asn}
variable {C : Env → Hp → List Asn → Prop} {ty t t' : TypeId} {pos : String} {aft : Array Edge} {x y z : Operand} {d : Nat}

/-! ### loops -/
theorem exists_least (p : Nat → Prop) (h : ∃ k, p k) : ∃ k, p k ∧ ∀ j, j < k → ¬ p j := by
  obtain ⟨k, hk⟩ := h
  induction k using Nat.strongRecOn with
  | _ k ih =>
    by_cases hx : ∃ j, j < k ∧ p j
    · obtain ⟨j, hj, hp'⟩ := hx; exact ih j hj hp'
    · exact ⟨k, hk, fun j hj hp' => hx ⟨j, hj, hp'⟩⟩

open Classical in
theorem G.loop {σ β : Type} (step : σ → Option (σ ⊕ β)) (I : σ → Env → Hp → List Asn → Prop) {c : Code} {s0 : σ} (b : β) (h0 : iter step s0 = some b) (hI : I s0 E S L)
    (hbody : ∀ s E S L, I s E S L → ∀ out, step s = some out → (∀ b', out = .inr b' → b' = b) → ∀ K : Act → World → Prop,
      (∀ s' E' S' L', out = .inl s' → I s' E' S' L' → GX n o .normal (Exit.then K Q) E' S' L') → G P n o c (Exit.then K Q) E S L) : G P n o (.loop c) Q E S L := by
  intro a w f st
  let J : Act → World → Nat → Prop := fun a w k => ∃ s E S L, I s E S L ∧ Fits n E a ∧ Sat o S L w ∧ iterN step k s = some b
  let μ : Act → World → Nat := fun a w => if h : ∃ k, J a w k ∧ ∀ j, j < k → ¬ J a w j then h.choose else 0
  have hμ : ∀ a w, (∃ k, J a w k) → J a w (μ a w) ∧ ∀ j, j < μ a w → ¬ J a w j := fun a w hk => by
    have h := exists_least _ hk
    simp only [μ, dif_pos h]
    exact h.choose_spec
  have hle : ∀ a w k, J a w k → μ a w ≤ k := fun a w k hk => by
    have h := (hμ a w ⟨k, hk⟩).2
    rcases Nat.lt_or_ge k (μ a w) with h' | h'
    · exact absurd hk (h k h')
    · exact h'
  obtain ⟨k0, hk0⟩ := iter_some.1 h0
  refine wp_loop (fun a w => ∃ k, J a w k) μ ⟨k0, s0, E, S, L, hI, f, st, hk0⟩ fun a w hk => ?_
  obtain ⟨⟨s, E, S, L, hI, f, st, hit⟩, _⟩ := hμ a w hk
  generalize hm : μ a w = m at hit
  cases m with
  | zero => simp [iterN] at hit
  | succ m =>
    simp only [iterN] at hit
    cases hs : step s with
    | none => rw [hs] at hit; simp at hit
    | some out =>
      rw [hs] at hit
      refine hbody s E S L hI out hs (fun b' e => by subst e; simpa using hit) _ (fun s' E' S' L' e hI' a' w' f' st' => ?_) a w f st
      subst e
      have hJ : J a' w' m := ⟨s', E', S', L', hI', f', st', hit⟩
      exact ⟨⟨m, hJ⟩, by have := hle a' w' m hJ; omega⟩

/-! ### joints of code: the rest is walked once -/
theorem GX.less {e : Exit} (k : Nat) {L' : List Asn} (hL : L.drop k = L') (h : GX n o e Q E S L') : GX n o e Q E S L := fun a w f s => h a w f (s.drop k hL)
theorem GX.pop2 {e : Exit} {p : Nat × Value} {t : Nat} {v : Value} (ht : E.lookup t = none) (h : GX n o e Q (p :: E) S L) : GX n o e Q (p :: (t, v) :: E) S L := fun a w f s => h a w (f.pop2 ht) s
/-- The slots that are wanted, one by one. -/
def keep (E : Env) : List Nat → Option Env
  | [] => some []
  | t :: l => match E.lookup t, keep E l with
    | some v, some E' => some ((t, v) :: E')
    | _, _ => none
theorem keep_lookup : ∀ {l : List Nat} {E E' : Env}, keep E l = some E' → ∀ t v, E'.lookup t = some v → E.lookup t = some v
  | [], E, E', h, t, v, e => by simp [keep] at h; subst h; simp at e
  | u :: l, E, E', h, t, v, e => by
    simp only [keep] at h
    split at h
    · rename_i x E'' h1 h2
      simp at h; subst h
      rw [List.lookup_cons] at e
      by_cases c : t = u
      · subst c; simp at e; rw [h1, e]
      · have : (t == u) = false := by simpa using c
        rw [this] at e; exact keep_lookup h2 t v e
    · simp at h
theorem GX.keep {e : Exit} {E' : Env} (l : List Nat) (hk : Ch.keep E l = some E') (h : GX n o e Q E' S L) : GX n o e Q E S L := fun a w f s => h a w (f.weaken (keep_lookup hk)) s
theorem G.keep {c : Code} {E' : Env} (l : List Nat) (hk : Ch.keep E l = some E') (h : G P n o c Q E' S L) : G P n o c Q E S L := fun a w f s => h a w (f.weaken (keep_lookup hk)) s

/-- Own things are shared from here on. -/
theorem G.shareR {c : Code} {α : Type} [Enc α] {v : Value} {xs : List α} (k : Nat) (hk : L[k]? = some (Rw v xs)) (h : ∀ S', S.le S' → Sls S' v xs → G P n o c Q E S' (L.set k fun _ => True)) : G P n o c Q E S L :=
  fun a w f s => by obtain ⟨S', e1, e2, e3⟩ := Rw.share s hk; exact h S' e1 e3 a w f e2
theorem GO.shareR {ops : Array Oper} {l : List Oper} {α : Type} [Enc α] {v : Value} {xs : List α} (k : Nat) (hk : L[k]? = some (Rw v xs)) (h : ∀ S', S.le S' → Sls S' v xs → GO P n o ops l Q E S' (L.set k fun _ => True)) : GO P n o ops l Q E S L :=
  fun a w f s => by obtain ⟨S', e1, e2, e3⟩ := Rw.share s hk; exact h S' e1 e3 a w f e2
theorem Blk.share {w : World} {b k : Nat} {segs : List Seg} (s : Sat o S L w) (hk : L[k]? = some (Blk b segs)) : ∃ S', S.le S' ∧ Sat o S' (L.set k fun _ => True) w ∧ At S' b 0 (cells segs) := by
  obtain ⟨h1, ⟨ty, hb⟩, hle, c, e, f⟩ := s.share hk
  exact ⟨_, c, f, _, _, _, e _ _ hb, fun j v q => by simpa using q⟩
theorem GO.shareB {ops : Array Oper} {l : List Oper} {b : Nat} {segs : List Seg} (k : Nat) (hk : L[k]? = some (Blk b segs)) (h : ∀ S', S.le S' → At S' b 0 (cells segs) → GO P n o ops l Q E S' (L.set k fun _ => True)) : GO P n o ops l Q E S L :=
  fun a w f s => by obtain ⟨S', e1, e2, e3⟩ := Blk.share s hk; exact h S' e1 e3 a w f e2

/-! ### regions that draw their order -/
/-- Less is said of L. -/
inductive Weak : List Asn → List Asn → Prop
  | refl {L : List Asn} : Weak L L
  | same {A : Asn} {L M : List Asn} : Weak L M → Weak (A :: L) (A :: M)
  | lose {A : Asn} {L M : List Asn} : Weak L M → Weak (A :: L) ((fun _ => True) :: M)
theorem Holds.weak : ∀ {L M : List Asn}, Weak L M → ∀ {h : Hp}, Holds L h → Holds M h
  | _, _, .refl, _, H => H
  | _, _, .same w, _, ⟨h1, a, b, c⟩ => ⟨h1, a, b, c.weak w⟩
  | _, _, .lose w, _, ⟨h1, a, b, c⟩ => ⟨h1, trivial, b, c.weak w⟩
theorem Sat.weak {M : List Asn} {w : World} (s : Sat o S L w) (h : Weak L M) : Sat o S M w := ⟨s.os, s.tape, s.output, s.stay, s.own.weak h⟩

/-- The region's standing condition: what stood at its start stands, but for what the region writes. -/
def Jw (o : World) (S0 : Hp) (L0 : List Asn) (w : World) : Prop := ∃ S X, S0.le S ∧ Sat o S (X ++ L0) w

variable (P n o) in
def GD (ops : Array Oper) (Q : Exit → Act → World → Prop) (S0 : Hp) (L0 : List Asn) (fuel : Nat) (listed : Array Bool) (E : Env) (S : Hp) (L : List Asn) : Prop :=
  ∀ a w, Fits n E a → Sat o S L w → Jw o S0 L0 w → wpAnyH P .any ops Q (Jw o S0 L0) fuel listed a w

def noPanicQ (Q : Exit → Act → World → Prop) : Prop := ∀ ch a d v w, Q (.panic ch) (a.put d v) w → Q (.panic ch) a w

/-- An operation whose value hangs on nothing that the region does is taken first. -/
theorem GD.take {ops : Array Oper} {S0 : Hp} {L0 : List Asn} {fuel : Nat} {listed : Array Bool} {op : Op} (i : Nat) (v : Value) (hi : ops[i]? = some ⟨some d, op, ty, pos, aft, none⟩) (hs : Region.noSelect ops = true)
    (hf : Region.free .any ops listed i = true) (hr : (Region.ready .any ops listed).contains i = true) (hQ : noPanicQ Q) (hd : d < n)
    (hy : ∀ S' X, S0.le S' → Yld P n o E S' (X ++ L0) op ty v) (h : GD P n o ops Q S0 L0 fuel (listed.setIfInBounds i true) ((d, v) :: E) S L) : GD P n o ops Q S0 L0 (fuel + 1) listed E S L :=
  fun a w f s j => wpAnyH_take (v := v) hi hs hf hr (fun c a w q => hQ c a _ _ w q) (.inl ⟨rfl, fun w' ⟨S', X, e1, e2⟩ => hy S' X e1 a w' f e2 _ _ _ _⟩) j (h _ _ (f.put hd v) s j)
/-- The one that may come up. -/
theorem GD.step {ops : Array Oper} {S0 : Hp} {L0 : List Asn} {fuel : Nat} {listed : Array Bool} {dst : Option Tmp} {op : Op} (i : Nat) (hi : ops[i]? = some ⟨dst, op, ty, pos, aft, none⟩)
    (hr : Region.ready .any ops listed = [i])
    (h : OS P n o Q ⟨dst, op, ty, pos, aft, none⟩ E S L fun E' S' L' => (∃ X, Weak L' (X ++ L0) ∧ S0.le S') ∧ GD P n o ops Q S0 L0 fuel (listed.setIfInBounds i true) E' S' L') : GD P n o ops Q S0 L0 (fuel + 1) listed E S L :=
  fun a w f s j => wpAnyH_all hr (by simp) fun i' hi' => by
    simp at hi'; subst hi'
    unfold wpOp
    rw [hi]
    simp only [Region.wanted, if_true]
    refine .inl (h _ (fun E' S' L' ⟨⟨X, e1, e2⟩, g⟩ a' w' f' s' => ?_) a w f s)
    have hj : Jw o S0 L0 w' := ⟨S', X, e2, s'.weak e1⟩
    exact ⟨hj, g a' w' f' s' hj⟩
theorem GD.done {ops : Array Oper} {S0 : Hp} {L0 : List Asn} {fuel : Nat} {listed : Array Bool} (hr : Region.ready .any ops listed = []) (h : GX n o .normal Q E S L) : GD P n o ops Q S0 L0 fuel listed E S L :=
  fun a w f s j => wpAnyH_done hr (h a w f s) fuel

end
end Go.Ch
end
section
/- Comparisons of arrays and structs. -/
set_option linter.unusedVariables false
set_option linter.unusedSimpArgs false
namespace Go.Ch
open Go.RowKit (wrap64)
open Enc (sg)

section
variable {P : Program} {n : Nat} {o : World} {Q : Exit → Act → World → Prop} {E : Env} {S : Hp} {L : List Asn}
variable {C : Env → Hp → List Asn → Prop} {ty t t' : TypeId} {pos : String} {aft : Array Edge} {x y z : Operand} {d : Nat}

/-- The comparison comes to r, with so much depth and more. -/
def EqV (P : Program) (t : TypeId) (D : Nat) (u v : Value) (r : Bool) : Prop := ∀ d, D ≤ d → ∀ w, (Op.equalIn d t u v).run P w = .ok r w
theorem EqV.int {t : TypeId} (k k' : IntKind) (a b : Int) (h : P.underlying t = some (.int k')) : EqV P t 1 (.int k a) (.int k b) (a == b) := fun d hd w => by
  obtain ⟨d, rfl⟩ : ∃ e, d = e + 1 := ⟨d - 1, by omega⟩
  exact run_equalIn_int w d t k k' a b h
theorem EqV.bool {t : TypeId} (a b : Bool) (h : P.underlying t = some .bool) : EqV P t 1 (.bool a) (.bool b) (a == b) := fun d hd w => by
  obtain ⟨d, rfl⟩ : ∃ e, d = e + 1 := ⟨d - 1, by omega⟩
  exact run_equalIn_bool w d t a b h
/-- All of a list of comparisons, up to the first that fails. -/
def allOf (f : Nat → Bool) : Nat → Nat → Bool
  | _, 0 => true
  | i, k + 1 => f i && allOf f (i + 1) k
theorem allOf_iff (f : Nat → Bool) : ∀ (k i : Nat), allOf f i k = true ↔ ∀ j, i ≤ j → j < i + k → f j = true
  | 0, i => by simp [allOf]; intro j a b; omega
  | k + 1, i => by
    simp only [allOf, Bool.and_eq_true, allOf_iff f k (i + 1)]
    constructor
    · rintro ⟨h1, h2⟩ j a b
      by_cases c : j = i
      · subst c; exact h1
      · exact h2 j (by omega) (by omega)
    · intro h
      exact ⟨h i (by omega) (by omega), fun j a b => h j (by omega) (by omega)⟩

theorem run_part_one {t : TypeId} (h : OneT P t) {cs : Array Value} {off : Nat} {v : Value} (hv : cs[off]? = some v) (w : World) : (part t cs off).run P w = .ok v w := by
  simp [part, h.run_isAgg, hv]

def resB : Bool → Option Bool × Unit
  | true => (none, ())
  | false => (some false, ())
theorem EqV.arr {t el : TypeId} {len : Nat} {xs ys : Array Value} (f : Nat → Bool) (h : P.underlying t = some (.array len el)) (h1 : OneT P el) (hl : xs.size = len) (hl' : ys.size = len)
    (hf : ∀ j u v, xs[j]? = some u → ys[j]? = some v → EqV P el 1 u v (f j)) : EqV P t 2 (.agg xs) (.agg ys) (allOf f 0 len) := fun d hd w => by
  obtain ⟨d, rfl⟩ : ∃ e, d = e + 1 := ⟨d - 1, by omega⟩
  simp only [Op.equalIn, Sem.run_bind, run_underlying h, Result.andThen_ok, run_sizeOf_of h1.s]
  rw [Std.Legacy.Range.forIn_eq_forIn_range']
  have key : ∀ (k i : Nat), i + k = len → ((forIn (m := Sem) (List.range' i k 1) ((none, ()) : Option Bool × Unit) fun i r => do
      if (!(← Op.equalIn d el (← part el xs (i * 1)) (← part el ys (i * 1)))) = true then pure (ForInStep.done (some false, ())) else pure (ForInStep.yield (none, ()))).run P w) =
      .ok (resB (allOf f i k)) w := by
    intro k
    induction k with
    | zero => intro i _; simp [allOf, resB]
    | succ k ih =>
      intro i hi
      have hx : xs[i]? = some (xs[i]'(by omega)) := Array.getElem?_eq_getElem (by omega)
      have hy : ys[i]? = some (ys[i]'(by omega)) := Array.getElem?_eq_getElem (by omega)
      have he := hf i _ _ hx hy d (by omega) w
      rw [List.range'_succ, List.forIn_cons]
      simp only [Nat.mul_one, Sem.run_bind, run_part_one h1 hx, run_part_one h1 hy, Result.andThen_ok, he, allOf]
      have ih' := ih (i + 1) (by omega)
      simp only [Nat.mul_one] at ih'
      rcases Bool.eq_false_or_eq_true (f i) with hfi | hfi
      · simp only [hfi, Bool.not_true, Bool.false_eq_true, if_false, Sem.run_pure, Result.andThen_ok, Bool.true_and]
        exact ih'
      · simp [hfi, resB]
  have := key len 0 (by omega)
  simp only [Std.Legacy.Range.size, Nat.sub_zero, Nat.add_sub_cancel, Nat.div_one] at *
  rw [this]
  cases allOf f 0 len <;> rfl

theorem lab_getElem? (a : Lab) (j : Nat) : (cells [sL a]).toArray[j]? = (a.toList[j]?).map u8V := by
  simp [cells, sL, Vector.toList_map]
theorem allOf_lab (a b : Lab) : allOf (fun j => a.toList.getD j 0 == b.toList.getD j 0) 0 32 = (a == b) := by
  have hl : a.toList.length = 32 := by simp
  have hl' : b.toList.length = 32 := by simp
  rw [Bool.eq_iff_iff, allOf_iff]
  constructor
  · intro h
    have : a.toList = b.toList := by
      apply List.ext_getElem (by omega)
      intro j h1 h2
      have := h j (by omega) (by omega)
      simp only [List.getD_eq_getElem?_getD, List.getElem?_eq_getElem h1, List.getElem?_eq_getElem h2, Option.getD_some, beq_iff_eq] at this
      exact this
    have e : a = b := by
      apply Vector.toArray_inj.1
      apply Array.toList_inj.1
      exact this
    simp [e]
  · intro h j _ _
    have : a = b := by simpa using h
    subst this; simp
/-- Labels. -/
theorem EqV.lab {t el : TypeId} (a b : Lab) (h : P.underlying t = some (.array 32 el)) (h1 : OneT P el) (hu : P.underlying el = some (.int .u8)) : EqV P t 2 (aggV [sL a]) (aggV [sL b]) (a == b) := by
  rw [← allOf_lab a b]
  have l1 : (cells [sL a]).length = 32 := by rw [length_cells]; rfl
  have l2 : (cells [sL b]).length = 32 := by rw [length_cells]; rfl
  refine EqV.arr _ h h1 (by simp [l1]) (by simp [l2]) fun j u v hx hy => ?_
  rw [lab_getElem?] at hx hy
  cases ha : a.toList[j]? with
  | none => simp [ha] at hx
  | some p =>
    cases hb : b.toList[j]? with
    | none => simp [hb] at hy
    | some q =>
      simp [ha] at hx; simp [hb] at hy; subst hx hy
      have := EqV.int (P := P) .u8 .u8 p.toNat q.toNat hu
      simp only [List.getD_eq_getElem?_getD, ha, hb, Option.getD_some]
      have e : ((p.toNat : Int) == (q.toNat : Int)) = (p == q) := by
        rw [Bool.eq_iff_iff, beq_iff_eq, beq_iff_eq, Int.natCast_inj, UInt8.toNat_inj]
      rw [e] at this; exact this

theorem EqV.mono {t : TypeId} {D D' : Nat} {u v : Value} {r : Bool} (h : EqV P t D u v r) (hd : D ≤ D') : EqV P t D' u v r := fun d hd' w => h d (by omega) w

theorem cells_cut {segs r : List Seg} {off k : Nat} (i m : Nat) (hoff : width (segs.take i) = off) (hr : (segs.drop i).take m = r) (hw : width r = k) : ((cells segs).drop off).take k = cells r := by
  have e : cells segs = cells (segs.take i) ++ (cells r ++ cells ((segs.drop i).drop m)) := by
    rw [← hr, ← cells_append, List.take_append_drop, ← cells_append, List.take_append_drop]
  rw [e, List.drop_append_of_le_length (by rw [length_cells, hoff]; exact Nat.le_refl _), List.drop_of_length_le (by rw [length_cells, hoff]; exact Nat.le_refl _)]
  rw [List.nil_append, show k = (cells r).length from by rw [length_cells, hw], List.take_left]
theorem cells_get {segs : List Seg} {off : Nat} {v : Value} (i : Nat) (hr : segs[i]? = some (sV v)) (hoff : width (segs.take i) = off) : (cells segs)[off]? = some v := by
  have hd' : segs.drop i = sV v :: segs.drop (i + 1) := by
    obtain ⟨hlt, e⟩ := List.getElem?_eq_some_iff.1 hr
    rw [List.drop_eq_getElem_cons hlt, e]
  rw [cells_take_drop segs i, hd', cells_cons, ← hoff, ← length_cells]
  simp [sV]

/-- Structs: the fields, one by one. -/
inductive EqF (P : Program) (D : Nat) (xs ys : List Value) : List Field → Bool → Prop
  | nil : EqF P D xs ys [] true
  | row {f : Field} {fs : List Field} {r q : Bool} {k : Nat} (A B : List Value) : f.name ≠ "_" → RowT P f.type k → (xs.drop f.offset).take k = A → (ys.drop f.offset).take k = B → EqV P f.type D (.agg A.toArray) (.agg B.toArray) r → EqF P D xs ys fs q → EqF P D xs ys (f :: fs) (r && q)
  | one {f : Field} {fs : List Field} {r q : Bool} (u v : Value) : f.name ≠ "_" → OneT P f.type → xs[f.offset]? = some u → ys[f.offset]? = some v → EqV P f.type D u v r → EqF P D xs ys fs q → EqF P D xs ys (f :: fs) (r && q)
theorem run_part_row {t : TypeId} {k : Nat} (h : RowT P t k) {cs : List Value} {off : Nat} (w : World) : (part t cs.toArray off).run P w = .ok (.agg ((cs.drop off).take k).toArray) w := by
  simp [part, h.run_isAgg, run_sizeOf_of h.s]
theorem EqF.run {D : Nat} {xs ys : List Value} {fs : List Field} {r : Bool} (h : EqF P D xs ys fs r) {d : Nat} (hd : D ≤ d) (w : World) : (Op.eqFields d xs.toArray ys.toArray fs).run P w = .ok r w := by
  induction h with
  | nil => rfl
  | @row f fs r q k A B h1 h2 h3 h4 h5 _ ih =>
    simp only [Op.eqFields, if_pos h1, Sem.run_bind, run_part_row h2, h3, h4, Result.andThen_ok, h5 d hd]
    cases r
    · simp
    · simp only [Bool.not_true, Bool.false_eq_true, if_false, Bool.true_and]; exact ih
  | @one f fs r q u v h1 h2 h3 h4 h5 _ ih =>
    simp only [Op.eqFields, if_pos h1, Sem.run_bind, run_part_one h2 (show xs.toArray[f.offset]? = some u by simpa using h3), run_part_one h2 (show ys.toArray[f.offset]? = some v by simpa using h4), Result.andThen_ok, h5 d hd]
    cases r
    · simp
    · simp only [Bool.not_true, Bool.false_eq_true, if_false, Bool.true_and]; exact ih
theorem EqV.struct {t : TypeId} {D : Nat} {xs ys : List Value} {fs : Array Field} {r : Bool} (h : P.underlying t = some (.struct fs)) (hp : P.stoodInHeld t = false) (hf : EqF P D xs ys fs.toList r) :
    EqV P t (D + 1) (.agg xs.toArray) (.agg ys.toArray) r := fun d hd w => by
  obtain ⟨d, rfl⟩ : ∃ e, d = e + 1 := ⟨d - 1, by omega⟩
  have e : P.fieldsOf t = fs := by simp [Program.fieldsOf, h]
  rw [run_equalIn_struct w d t _ _ (by rw [e]; exact h) hp, e]
  exact hf.run (by omega) w

structure EqT (P : Program) (t : TypeId) : Prop where
  g : P.eqGuardType P.depth t = false
theorem run_eqGuard_agg (h : EqT P t) (op : BinOp) (a b : Array Value) (w : World) : (eqGuard op t x y (.agg a) (.agg b)).run P w = .ok () w := by
  cases op <;> simp [eqGuard, h.g]
theorem Y.eqA {D : Nat} {A B : List Seg} {r : Bool} (hx : ev E x = some (aggV A)) (hy : ev E y = some (aggV B)) (ht : EqT P t) (hD : D ≤ 10000) (he : EqV P t D (aggV A) (aggV B) r) :
    Yld P n o E S L (.binOp .eql t x y t') ty (.bool r) := fun a w f s _ _ _ _ => by
  have e := he 10000 hD w
  simp only [execOp, f.eval hx, f.eval hy, Sem.run_bind]
  rw [show (eqGuard .eql t x y (aggV A) (aggV B)).run P w = .ok () w from run_eqGuard_agg ht .eql _ _ w]
  simp only [Result.andThen_ok]
  rw [show (binOp .eql t (aggV A) (aggV B)).run P w = _ from run_eql_struct w t _ _]
  show ((Result.andThen ((Op.equalIn 10000 t (aggV A) (aggV B)).run P w) _).andThen _) = _
  rw [e]; rfl
theorem Y.neA {D : Nat} {A B : List Seg} {r : Bool} (hx : ev E x = some (aggV A)) (hy : ev E y = some (aggV B)) (ht : EqT P t) (hD : D ≤ 10000) (he : EqV P t D (aggV A) (aggV B) r) :
    Yld P n o E S L (.binOp .neq t x y t') ty (.bool (!r)) := fun a w f s _ _ _ _ => by
  have e := he 10000 hD w
  simp only [execOp, f.eval hx, f.eval hy, Sem.run_bind]
  rw [show (eqGuard .neq t x y (aggV A) (aggV B)).run P w = .ok () w from run_eqGuard_agg ht .neq _ _ w]
  simp only [Result.andThen_ok]
  rw [show (binOp .neq t (aggV A) (aggV B)).run P w = _ from run_neq_struct w t _ _]
  show ((Result.andThen ((Op.equalIn 10000 t (aggV A) (aggV B)).run P w) _).andThen _) = _
  rw [e]; rfl
theorem Y.neB {a b : Bool} (hx : ev E x = some (.bool a)) (hy : ev E y = some (.bool b)) (ht : P.underlying t = some .bool) : Yld P n o E S L (.binOp .neq t x y t') ty (.bool (!(a == b))) := fun a' w f s _ _ _ _ => by
  have e := run_equal_bool (P := P) w t a b ht
  simp only [execOp, f.eval hx, f.eval hy, Sem.run_bind, run_eqlGuard_bool, Result.andThen_ok, binOp, e, Sem.run_pure]

end
end Go.Ch
end
section
/- The program's data in Lean: leaves, items, nodes; small laws on vectors as segments. -/
set_option linter.unusedVariables false
set_option linter.unusedSimpArgs false
namespace Go.Ch
open Go.RowKit (wrap64)
open Enc (sg)

def zL : Lab := Vector.replicate 32 0
structure Leaf where
  label : Lab
  value : Lab
  at_ : Int
  deriving DecidableEq
structure Pfx where
  len : Int
  bits : Lab
  deriving DecidableEq
structure Item where
  len : Int
  bits : Lab
  sum : Lab
  at_ : Int
  deriving DecidableEq
structure Inner where
  l : Item
  r : Item
  deriving DecidableEq
instance : Inhabited Leaf := ⟨⟨zL, zL, 0⟩⟩
instance : Inhabited Pfx := ⟨⟨0, zL⟩⟩
instance : Inhabited Item := ⟨⟨0, zL, zL, 0⟩⟩
instance : Inhabited Inner := ⟨⟨default, default⟩⟩
theorem ok_cells {L : List Seg} (h : ∀ s ∈ L, okSeg s) : okCells (cells L) := by
  intro v hv
  unfold cells at hv
  simp only [List.mem_flatten, List.mem_map] at hv
  obtain ⟨l, ⟨s, hs, rfl⟩, hv⟩ := hv
  exact h s hs v hv
theorem ok_int (k : IntKind) (i : Int) : okSeg (sV (.int k i)) := ok_sV rfl

def Leaf.sg (x : Leaf) : List Seg := [sL x.label, sL x.value, sV (.int .i64 x.at_)]
def Item.sg (x : Item) : List Seg := [sV (.int .i64 x.len), sL x.bits, sL x.sum, sV (.int .i64 x.at_)]
instance : Enc Leaf where
  sg := Leaf.sg
  k := 65
  pos := by omega
  hk x := rfl
  ok x := ok_cells (by simp only [Leaf.sg, List.mem_cons, List.not_mem_nil, or_false]; rintro s (rfl | rfl | rfl) <;> first | exact ok_sL _ | exact ok_int _ _)
instance : Enc Item where
  sg := Item.sg
  k := 66
  pos := by omega
  hk x := rfl
  ok x := ok_cells (by simp only [Item.sg, List.mem_cons, List.not_mem_nil, or_false]; rintro s (rfl | rfl | rfl | rfl) <;> first | exact ok_sL _ | exact ok_int _ _)
instance : Inhabited Lab := ⟨zL⟩
instance : Enc Lab where
  sg x := [sL x]
  k := 32
  pos := by omega
  hk x := rfl
  ok x := ok_cells (by simp only [List.mem_cons, List.not_mem_nil, or_false]; rintro s rfl; exact ok_sL _)
instance : Enc Str where
  default := []
  sg x := [sV (strV x)]
  k := 1
  pos := by omega
  hk x := rfl
  ok x := ok_cells (by simp only [List.mem_cons, List.not_mem_nil, or_false]; rintro s rfl; exact ok_sV rfl)
instance : Enc Int where
  sg x := [sV (.int .i64 x)]
  k := 1
  pos := by omega
  hk x := rfl
  ok x := ok_cells (by simp only [List.mem_cons, List.not_mem_nil, or_false]; rintro s rfl; exact ok_int _ _)

/-! elements of a vector, as the walk meets them -/
def getV {α : Type} [Inhabited α] {m : Nat} (l : Vector α m) (i : Int) : α := getI l.toList i
def setV {α : Type} {m : Nat} (l : Vector α m) (i : Int) (x : α) : Vector α m := l.setIfInBounds i.toNat x
theorem getI_get {α : Type} [Inhabited α] (l : List α) (i : Int) (h : 0 ≤ i ∧ i < (l.length : Int)) : l[i.toNat]? = some (getI l i) := by
  unfold getI
  rw [List.getD_eq_getElem?_getD, List.getElem?_eq_getElem (by omega)]; rfl
theorem at_sL (l : Lab) (i : Int) (h : 0 ≤ i ∧ i < (32 : Nat)) : (sL l).cs.toList[i.toNat * 1]? = some (u8V (getV l i)) := by
  have := getI_get l.toList i (by simpa using h)
  rw [Nat.mul_one, toList_sL, encL_u8, List.getElem?_map, this]; rfl
theorem at_sU32 {m : Nat} (l : Vector UInt32 m) (i : Int) (h : 0 ≤ i ∧ i < (m : Int)) : (sU32 l).cs.toList[i.toNat * 1]? = some (u32V (getV l i)) := by
  have := getI_get l.toList i (by simpa using h)
  have e : (sU32 l).cs.toList = l.toList.map u32V := by simp [sU32, Vector.toList_map]
  rw [Nat.mul_one, e, List.getElem?_map, this]; rfl
theorem set_sL (l : Lab) (i : Int) (x : UInt8) : (sL (setV l i x)).cs.toList = (sL l).cs.toList.set (i.toNat * 1) (u8V x) := by
  rw [Nat.mul_one, toList_sL, toList_sL, encL_u8, encL_u8, ← List.map_set]; simp [setV]
theorem set_sU32 {m : Nat} (l : Vector UInt32 m) (i : Int) (x : UInt32) : (sU32 (setV l i x)).cs.toList = (sU32 l).cs.toList.set (i.toNat * 1) (u32V x) := by
  have e : ∀ l : Vector UInt32 m, (sU32 l).cs.toList = l.toList.map u32V := fun l => by simp [sU32, Vector.toList_map]
  rw [Nat.mul_one, e, e, ← List.map_set]; simp [setV]

section
variable {P : Program} {n : Nat} {o : World} {Q : Exit → Act → World → Prop} {E : Env} {S : Hp} {L : List Asn}
variable {C : Env → Hp → List Asn → Prop} {ty t t' : TypeId} {pos : String} {aft : Array Edge} {x y z : Operand} {d : Nat}

theorem noPanicQ.then {K : Act → World → Prop} (h : noPanicQ Q) : noPanicQ (Exit.then K Q) := h
theorem noPanicQ.block {id : Nat} (h : noPanicQ Q) : noPanicQ (Exit.inBlock id Q) := h

theorem GX.fall (hN : ∀ a w, Q .ret a w → Q .normal a w) (h : GX n o .ret Q E S L) : GX n o .normal Q E S L := fun a w f s => hN a w (h a w f s)

/-- A function that only computes. -/
theorem Fn.of' {f : FuncId} {fn : Func} {c : Code} {args : List Value} {post : Value → Hp → Prop} (rs : List ResultVar) (m : Nat) (hf : P.funcs[f]? = some fn) (hb : fn.body = some c) (hm : fn.ntmps = m) (hn : args.length ≤ m) (hr : fn.results = rs.toArray)
    (h : ∀ (o : World) (F : List Asn) (Q : Exit → Act → World → Prop), noPanicQ Q → (∀ a w, Q .ret a w → Q .normal a w) →
      (∀ E S' L vs k, S.le S' → Ress P E L rs vs → post (retV vs) S' → L.drop k = F → GX m o .ret Q E S' L) → G P m o c Q (argEnv 0 args) S F) : Fn P f args S post := by
  subst hm
  exact fun o F w s => calls_of_wp hf hb (h o F (bodyPost P fn _) (fun ch a d v w q => by cases d <;> exact q) (fun a w q => q) (fun E S' L vs k e1 e2 e3 e4 => GX.ret_fn vs hr e2 fun w' s' => ⟨_, S', rfl, e1, s'.drop k e4, e3⟩) _ w (fits_enter args hn) s)

/-- In a region: the ways meet again with a bool in a slot. -/
theorem GO.joinB {ops : Array Oper} {l : List Oper} (m d : Nat) (R : Bool → Prop)
    (h1 : ∀ K : Act → World → Prop, (∀ b S', S.le S' → R b → GX n o .normal (Exit.then K Q) ((d, .bool b) :: E) S' L) → GO P n o ops (l.take m) (Exit.then K Q) E S L)
    (h2 : ∀ b S', S.le S' → R b → GO P n o ops (l.drop m) Q ((d, .bool b) :: E) S' L) : GO P n o ops l Q E S L :=
  GO.part m fun K hK => h1 K fun b S' e r a w f s => hK a w (h2 b S' e r a w f s)
theorem GO.onV {op : Op} {d : Nat} {ops : Array Oper} {rest : List Oper} {j : Nat} {want b : Bool} {v : Value} (t : Nat) (hs : slotOf ops j = some t) (ht : t < n) (hb : E.lookup t = some (.bool b)) (he : b = want) (hd : d < n)
    (hy : Yld P n o E S L op ty v) (h : GO P n o ops rest Q ((d, v) :: E) S L) : GO P n o ops (⟨some d, op, ty, pos, aft, some (j, want)⟩ :: rest) Q E S L :=
  GO.on t hs ht (by rw [hb, he]) (OS.val hd hy h)
theorem GO.onS {dst : Option Tmp} {op : Op} {ops : Array Oper} {rest : List Oper} {j : Nat} {want b : Bool} (t : Nat) (hs : slotOf ops j = some t) (ht : t < n) (hb : E.lookup t = some (.bool b)) (he : b = want)
    (h : OS P n o Q ⟨dst, op, ty, pos, aft, none⟩ E S L (GO P n o ops rest Q)) : GO P n o ops (⟨dst, op, ty, pos, aft, some (j, want)⟩ :: rest) Q E S L :=
  GO.on t hs ht (by rw [hb, he]) h
end
end Go.Ch
end
section
/- Typed words: the rules of uint8, uint32, uint64, and conversions (printed by mkw.py). -/
set_option linter.unusedVariables false
set_option linter.unusedSimpArgs false
namespace Go.Ch
open Go.RowKit (wrap64)
section
variable {P : Program} {n : Nat} {o : World} {Q : Exit → Act → World → Prop} {E : Env} {S : Hp} {L : List Asn}
variable {ty t t' : TypeId} {x y z : Operand}
theorem fdiv_nat (a m : Nat) : (a : Int).fdiv (2 ^ m) = ((a / 2 ^ m : Nat) : Int) := by
  rw [Int.fdiv_eq_ediv_of_nonneg _ (by exact_mod_cast Nat.zero_le _)]
  simp

theorem Y.add_u8 {a b : UInt8} (hx : ev E x = some (u8V a)) (hy : ev E y = some (u8V b)) : Yld P n o E S L (.binOp .add t x y t') ty (u8V (a + b)) :=
  Y.arith _ hx hy (by simp) (congrArg (Value.int .u8) (u8_add a b))

theorem Y.mul_u8 {a b : UInt8} (hx : ev E x = some (u8V a)) (hy : ev E y = some (u8V b)) : Yld P n o E S L (.binOp .mul t x y t') ty (u8V (a * b)) :=
  Y.arith _ hx hy (by simp) (congrArg (Value.int .u8) (u8_mul a b))

theorem Y.and_u8 {a b : UInt8} (hx : ev E x = some (u8V a)) (hy : ev E y = some (u8V b)) : Yld P n o E S L (.binOp .and t x y t') ty (u8V (a &&& b)) :=
  Y.arith _ hx hy (by simp) (congrArg (Value.int .u8) (u8_bits .and a b))

theorem Y.xor_u8 {a b : UInt8} (hx : ev E x = some (u8V a)) (hy : ev E y = some (u8V b)) : Yld P n o E S L (.binOp .xor t x y t') ty (u8V (a ^^^ b)) :=
  Y.arith _ hx hy (by simp) (congrArg (Value.int .u8) (u8_bits .xor a b))

theorem Y.andNot_u8 {a b : UInt8} (hx : ev E x = some (u8V a)) (hy : ev E y = some (u8V b)) : Yld P n o E S L (.binOp .andNot t x y t') ty (u8V (a &&& ~~~b)) :=
  Y.arith _ hx hy (by simp) (congrArg (Value.int .u8) (u8_bits .andNot a b))

theorem Y.eql_u8 {a b : UInt8} (hx : ev E x = some (u8V a)) (hy : ev E y = some (u8V b)) : Yld P n o E S L (.binOp .eql t x y t') ty (.bool (a == b)) := by
  have h : Value.bool (cmpI .eql (a.toNat : Int) b.toNat) = .bool (a == b) := by show Value.bool _ = _; simp only [cmpI]; congr 1; rw [Bool.eq_iff_iff]; simp only [beq_iff_eq, bne_iff_ne, ne_eq, Int.natCast_inj, UInt8.toNat_inj]
  rw [← h]; exact Y.cmp .u8 _ _ hx hy (by simp)

theorem Y.neq_u8 {a b : UInt8} (hx : ev E x = some (u8V a)) (hy : ev E y = some (u8V b)) : Yld P n o E S L (.binOp .neq t x y t') ty (.bool (a != b)) := by
  have h : Value.bool (cmpI .neq (a.toNat : Int) b.toNat) = .bool (a != b) := by show Value.bool _ = _; simp only [cmpI]; congr 1; rw [Bool.eq_iff_iff]; simp only [beq_iff_eq, bne_iff_ne, ne_eq, Int.natCast_inj, UInt8.toNat_inj]
  rw [← h]; exact Y.cmp .u8 _ _ hx hy (by simp)

theorem Y.gtr_u8 {a b : UInt8} (hx : ev E x = some (u8V a)) (hy : ev E y = some (u8V b)) : Yld P n o E S L (.binOp .gtr t x y t') ty (.bool (decide (b < a))) := by
  have h : Value.bool (cmpI .gtr (a.toNat : Int) b.toNat) = .bool (decide (b < a)) := by show Value.bool _ = _; simp only [cmpI]; congr 1; rw [Bool.eq_iff_iff]; simp [UInt8.lt_iff_toNat_lt, UInt8.le_iff_toNat_le]
  rw [← h]; exact Y.cmp .u8 _ _ hx hy (by simp)

def hr_u8 (a : UInt8) (c : Int) : UInt8 := UInt8.ofNat (a.toNat / 2 ^ (min c.toNat 8))
def hl_u8 (a : UInt8) (c : Int) : UInt8 := UInt8.ofNat (a.toNat * 2 ^ (min c.toNat 8))
theorem Y.shr_u8 {a : UInt8} {kd : IntKind} {c : Int} (hx : ev E x = some (u8V a)) (hy : ev E y = some (.int kd c)) (hc : 0 ≤ c) : Yld P n o E S L (.binOp .shr t x y t') ty (u8V (hr_u8 a c)) :=
  Y.shr _ hx hy hc (congrArg (Value.int .u8) (by
    show (a.toNat : Int).fdiv (2 ^ (min c.toNat 8)) = ((hr_u8 a c).toNat : Int)
    rw [fdiv_nat]
    unfold hr_u8
    rw [UInt8.toNat_ofNat_of_lt']
    exact Nat.lt_of_le_of_lt (Nat.div_le_self _ _) a.toNat_lt))
theorem Y.shl_u8 {a : UInt8} {kd : IntKind} {c : Int} (hx : ev E x = some (u8V a)) (hy : ev E y = some (.int kd c)) (hc : 0 ≤ c) : Yld P n o E S L (.binOp .shl t x y t') ty (u8V (hl_u8 a c)) :=
  Y.shl _ hx hy hc (congrArg (Value.int .u8) (by
    show IntKind.u8.wrap ((a.toNat : Int) * 2 ^ (min c.toNat 8)) = ((hl_u8 a c).toNat : Int)
    unfold hl_u8
    rw [wrap_u8, UInt8.toNat_ofNat']
    rw [Int.natCast_emod, Int.natCast_mul, Int.natCast_pow]
    rfl))
theorem Y.add_u32 {a b : UInt32} (hx : ev E x = some (u32V a)) (hy : ev E y = some (u32V b)) : Yld P n o E S L (.binOp .add t x y t') ty (u32V (a + b)) :=
  Y.arith _ hx hy (by simp) (congrArg (Value.int .u32) (u32_add a b))

theorem Y.and_u32 {a b : UInt32} (hx : ev E x = some (u32V a)) (hy : ev E y = some (u32V b)) : Yld P n o E S L (.binOp .and t x y t') ty (u32V (a &&& b)) :=
  Y.arith _ hx hy (by simp) (congrArg (Value.int .u32) (u32_bits .and a b))

theorem Y.or_u32 {a b : UInt32} (hx : ev E x = some (u32V a)) (hy : ev E y = some (u32V b)) : Yld P n o E S L (.binOp .or t x y t') ty (u32V (a ||| b)) :=
  Y.arith _ hx hy (by simp) (congrArg (Value.int .u32) (u32_bits .or a b))

theorem Y.xor_u32 {a b : UInt32} (hx : ev E x = some (u32V a)) (hy : ev E y = some (u32V b)) : Yld P n o E S L (.binOp .xor t x y t') ty (u32V (a ^^^ b)) :=
  Y.arith _ hx hy (by simp) (congrArg (Value.int .u32) (u32_bits .xor a b))

def hr_u32 (a : UInt32) (c : Int) : UInt32 := UInt32.ofNat (a.toNat / 2 ^ (min c.toNat 32))
def hl_u32 (a : UInt32) (c : Int) : UInt32 := UInt32.ofNat (a.toNat * 2 ^ (min c.toNat 32))
theorem Y.shr_u32 {a : UInt32} {kd : IntKind} {c : Int} (hx : ev E x = some (u32V a)) (hy : ev E y = some (.int kd c)) (hc : 0 ≤ c) : Yld P n o E S L (.binOp .shr t x y t') ty (u32V (hr_u32 a c)) :=
  Y.shr _ hx hy hc (congrArg (Value.int .u32) (by
    show (a.toNat : Int).fdiv (2 ^ (min c.toNat 32)) = ((hr_u32 a c).toNat : Int)
    rw [fdiv_nat]
    unfold hr_u32
    rw [UInt32.toNat_ofNat_of_lt']
    exact Nat.lt_of_le_of_lt (Nat.div_le_self _ _) a.toNat_lt))
theorem Y.shl_u32 {a : UInt32} {kd : IntKind} {c : Int} (hx : ev E x = some (u32V a)) (hy : ev E y = some (.int kd c)) (hc : 0 ≤ c) : Yld P n o E S L (.binOp .shl t x y t') ty (u32V (hl_u32 a c)) :=
  Y.shl _ hx hy hc (congrArg (Value.int .u32) (by
    show IntKind.u32.wrap ((a.toNat : Int) * 2 ^ (min c.toNat 32)) = ((hl_u32 a c).toNat : Int)
    unfold hl_u32
    rw [wrap_u32, UInt32.toNat_ofNat']
    rw [Int.natCast_emod, Int.natCast_mul, Int.natCast_pow]
    rfl))
theorem Y.not_u32 {a : UInt32} (hx : ev E x = some (u32V a)) : Yld P n o E S L (.unOp .xor t x) ty (u32V (~~~a)) :=
  Y.un _ hx (fun w => by
    have e := u32_bits .xor (~~~0) a
    have e2 : (IntKind.u32.max : Int) = (((~~~0 : UInt32).toNat : Nat) : Int) := by decide
    simp only [u32V, Op.unary, IntKind.signed, Bool.false_eq_true, if_false, Op.intBits, e2]
    simp only [bitsI] at e
    simp only [Sem.run_pure]
    have e3 : (~~~0 ^^^ a : UInt32) = ~~~a := by apply UInt32.eq_of_toBitVec_eq; simp
    have e4 := e.trans (congrArg (fun u : UInt32 => (u.toNat : Int)) e3)
    exact congrArg (fun q => Result.ok (Value.int .u32 q) w) e4)

theorem Y.sub_u64 {a b : UInt64} (hx : ev E x = some (u64V a)) (hy : ev E y = some (u64V b)) : Yld P n o E S L (.binOp .sub t x y t') ty (u64V (a - b)) :=
  Y.arith _ hx hy (by simp) (congrArg (Value.int .u64) (u64_sub a b))

theorem Y.mul_u64 {a b : UInt64} (hx : ev E x = some (u64V a)) (hy : ev E y = some (u64V b)) : Yld P n o E S L (.binOp .mul t x y t') ty (u64V (a * b)) :=
  Y.arith _ hx hy (by simp) (congrArg (Value.int .u64) (u64_mul a b))

theorem Y.and_u64 {a b : UInt64} (hx : ev E x = some (u64V a)) (hy : ev E y = some (u64V b)) : Yld P n o E S L (.binOp .and t x y t') ty (u64V (a &&& b)) :=
  Y.arith _ hx hy (by simp) (congrArg (Value.int .u64) (u64_bits .and a b))

def hr_u64 (a : UInt64) (c : Int) : UInt64 := UInt64.ofNat (a.toNat / 2 ^ (min c.toNat 64))
theorem Y.shr_u64 {a : UInt64} {kd : IntKind} {c : Int} (hx : ev E x = some (u64V a)) (hy : ev E y = some (.int kd c)) (hc : 0 ≤ c) : Yld P n o E S L (.binOp .shr t x y t') ty (u64V (hr_u64 a c)) :=
  Y.shr _ hx hy hc (congrArg (Value.int .u64) (by
    show (a.toNat : Int).fdiv (2 ^ (min c.toNat 64)) = ((hr_u64 a c).toNat : Int)
    rw [fdiv_nat]
    unfold hr_u64
    rw [UInt64.toNat_ofNat_of_lt']
    exact Nat.lt_of_le_of_lt (Nat.div_le_self _ _) a.toNat_lt))
/-! conversions -/
def u8I (i : Int) : UInt8 := UInt8.ofNat (i % 256).toNat
def u64I (i : Int) : UInt64 := UInt64.ofNat (i % 18446744073709551616).toNat
theorem u8I_wrap (i : Int) : IntKind.u8.wrap i = ((u8I i).toNat : Int) := by rw [wrap_u8]; unfold u8I; rw [UInt8.toNat_ofNat_of_lt' (by show _ < 256; omega)]; omega
theorem u64I_wrap (i : Int) : IntKind.u64.wrap i = ((u64I i).toNat : Int) := by rw [wrap_u64]; unfold u64I; rw [UInt64.toNat_ofNat_of_lt' (by show _ < 18446744073709551616; omega)]; omega
structure IntT (P : Program) (t : TypeId) (k : IntKind) : Prop where
  e : P.underlying t = some (.int k)

theorem Y.cv_i64_u8 {a : Int} {k0 : IntKind} (hx : ev E x = some (.int .i64 a)) (ht : IntT P t k0) (ht' : IntT P t' .u8) : Yld P n o E S L (.convert t t' x) ty (u8V (u8I a)) :=
  Y.convI _ hx ⟨_, ht.e⟩ ht'.e (congrArg (Value.int .u8) (u8I_wrap a))

theorem Y.cv_i64_u64 {a : Int} {k0 : IntKind} (hx : ev E x = some (.int .i64 a)) (ht : IntT P t k0) (ht' : IntT P t' .u64) : Yld P n o E S L (.convert t t' x) ty (u64V (u64I a)) :=
  Y.convI _ hx ⟨_, ht.e⟩ ht'.e (congrArg (Value.int .u64) (u64I_wrap a))

theorem Y.cv_u8_i64 {a : UInt8} {k0 : IntKind} (hx : ev E x = some (u8V a)) (ht : IntT P t k0) (ht' : IntT P t' .i64) : Yld P n o E S L (.convert t t' x) ty (.int .i64 (a.toNat : Int)) :=
  Y.convI _ hx ⟨_, ht.e⟩ ht'.e (congrArg (Value.int .i64) (by rw [wrap_i64]; unfold wrap64; have := a.toNat_lt; omega))

theorem Y.cv_u8_u32 {a : UInt8} {k0 : IntKind} (hx : ev E x = some (u8V a)) (ht : IntT P t k0) (ht' : IntT P t' .u32) : Yld P n o E S L (.convert t t' x) ty (u32V a.toUInt32) :=
  Y.convI _ hx ⟨_, ht.e⟩ ht'.e (congrArg (Value.int .u32) (by rw [wrap_u32, UInt8.toNat_toUInt32]; have := a.toNat_lt; omega))

theorem Y.cv_u32_u8 {a : UInt32} {k0 : IntKind} (hx : ev E x = some (u32V a)) (ht : IntT P t k0) (ht' : IntT P t' .u8) : Yld P n o E S L (.convert t t' x) ty (u8V a.toUInt8) :=
  Y.convI _ hx ⟨_, ht.e⟩ ht'.e (congrArg (Value.int .u8) (by rw [wrap_u8, UInt32.toNat_toUInt8]; omega))

theorem Y.cv_u64_u8 {a : UInt64} {k0 : IntKind} (hx : ev E x = some (u64V a)) (ht : IntT P t k0) (ht' : IntT P t' .u8) : Yld P n o E S L (.convert t t' x) ty (u8V a.toUInt8) :=
  Y.convI _ hx ⟨_, ht.e⟩ ht'.e (congrArg (Value.int .u8) (by rw [wrap_u8, UInt64.toNat_toUInt8]; omega))

/-! shifts of int -/
def shrInt (a c : Int) : Int := shrI .i64 a c
def shlInt (a c : Int) : Int := shlI .i64 a c
theorem Y.shr_i64 {a : Int} {kd : IntKind} {c : Int} (hx : ev E x = some (.int .i64 a)) (hy : ev E y = some (.int kd c)) (hc : 0 ≤ c) : Yld P n o E S L (.binOp .shr t x y t') ty (.int .i64 (shrInt a c)) := Y.shr _ hx hy hc rfl
theorem Y.shl_i64 {a : Int} {kd : IntKind} {c : Int} (hx : ev E x = some (.int .i64 a)) (hy : ev E y = some (.int kd c)) (hc : 0 ≤ c) : Yld P n o E S L (.binOp .shl t x y t') ty (.int .i64 (shlInt a c)) := Y.shl _ hx hy hc rfl
end
end Go.Ch
end
section
/- More rules, in the forms that the printer uses. -/
set_option linter.unusedVariables false
set_option linter.unusedSimpArgs false
namespace Go.Ch
open Go.RowKit (wrap64)
open Enc (sg)

theorem okS_nil : okCells (cells []) := by simp [okCells, cells]
theorem okS_cons {s : Seg} {L : List Seg} (h : okSeg s) (k : okCells (cells L)) : okCells (cells (s :: L)) := by
  rw [cells_cons]; intro v hv
  rcases List.mem_append.1 hv with e | e
  · exact h v e
  · exact k v e
theorem lt_of_bnd {i : Int} {m : Nat} (h : 0 ≤ i ∧ i < (m : Nat)) : i.toNat * 1 < m := by omega
theorem Sls.one {α : Type} [Enc α] {S : Hp} {v : Value} {xs : List α} (h : Sls S v xs) : v.oneCell' = true := by obtain ⟨a, cap, rfl, _⟩ := h; rfl
theorem Sls.cells {α : Type} [Enc α] {S : Hp} {v : Value} {xs : List α} (h : Sls S v xs) : v.cells.toList = Ch.cells [sV v] := by obtain ⟨a, cap, rfl, _⟩ := h; rfl

section
variable {P : Program} {n : Nat} {o : World} {Q : Exit → Act → World → Prop} {E : Env} {S : Hp} {L : List Asn}
variable {C : Env → Hp → List Asn → Prop} {ty t t' : TypeId} {pos : String} {aft : Array Edge} {x y z : Operand} {d : Nat}
variable {α : Type} [Enc α]

theorem Y.buildE {parts : List (Nat × Operand)} {ps : List (Nat × Nat)} {segs0 : List Seg} (vals : List Value) (out : List Seg) (ht : StrT P t ps) (hz : ZeroT P t segs0)
    (hv : evs E (parts.map Prod.snd) = some vals) (hb : Built (fun i => ps[i]?) segs0 ((parts.map Prod.fst).zip vals) out) : Yld P n o E S L (.build t parts.toArray) ty (aggV out) :=
  fun a w f s d' pos aft g => by
    refine Y.build ((parts.map Prod.fst).zip vals) out ht hz (fun a f => ?_) hb a w f s d' pos aft g
    rw [← f.evals hv, List.map_map, List.zip_map']; rfl

theorem OS.buildSliceE {parts : List (Nat × Operand)} {len : Nat} (xs : List α) {vs : List Value} (hd : d < n) (ht : ElT P t α) (hlen : len = xs.length) (hl : xs.length * Enc.k α ≤ 16777216)
    (hi : parts.map Prod.fst = List.range len) (hv : evs E (parts.map Prod.snd) = some vs ∧ vs.map (fun v => v.cells.toList) = xs.map fun x => Ch.cells (sg x))
    (h : ∀ v, C ((d, v) :: E) S (Rw v xs :: L)) : OS P n o Q ⟨some d, .buildSlice t len parts.toArray, ty, pos, aft, none⟩ E S L C :=
  OS.buildSlice xs vs hd ht hlen hl (fun a f => by
    have e := f.evals hv.1
    have hl2 : vs.length = parts.length := by rw [← e]; simp
    have hp : parts.length = len := by have := congrArg List.length hi; simpa using this
    apply List.ext_getElem
    · simp [hl2]
    · intro i h1 h2
      simp at h1 h2 ⊢
      have e1 : (parts.map Prod.fst)[i]'(by simpa using h1) = i := by simp [hi]
      have e2 : vs[i] = ((parts.map Prod.snd).map a.eval)[i]'(by simpa using h1) := by simp [e]
      simp at e1 e2
      rw [e1, e2]; exact ⟨rfl, rfl⟩) hv.2 h

theorem Y.minI {a b : Int} {ts : Array TypeId} (hx : ev E x = some (.int .i64 a)) (hy : ev E y = some (.int .i64 b)) : Yld P n o E S L (.call ⟨.builtin .min, #[x, y], ts⟩) ty (.int .i64 (min a b)) := fun a' w f s _ _ _ _ => by
  have e : (if b < a then b else a) = min a b := by by_cases h : b < a <;> simp [h] <;> omega
  simp [execOp, resolve, f.eval hx, f.eval hy, invoke, builtin, Builtin.min_, Builtin.min2, e]
theorem Y.maxI {a b : Int} {ts : Array TypeId} (hx : ev E x = some (.int .i64 a)) (hy : ev E y = some (.int .i64 b)) : Yld P n o E S L (.call ⟨.builtin .max, #[x, y], ts⟩) ty (.int .i64 (max a b)) := fun a' w f s _ _ _ _ => by
  have e : (if b > a then b else a) = max a b := by by_cases h : b > a <;> simp [h] <;> omega
  simp [execOp, resolve, f.eval hx, f.eval hy, invoke, builtin, Builtin.max_, Builtin.max2]; omega

theorem GO.nilRow {ops : Array Oper} {l : List Oper} (h : GO P n o ops l Q E S (Rw (.slice none 0 0) ([] : List α) :: L)) : GO P n o ops l Q E S L := fun a w f s =>
  h a w f ⟨s.os, s.tape, s.output, s.stay, Holds.cons (h1 := fun _ => none) (.inl ⟨rfl, rfl⟩) (fun b x q => by simp at q) (Hp.le_refl _) (fun b x q => rfl) s.own⟩

end
end Go.Ch
end
section
/- Regions that draw their order: a standing condition in two stages, guards, branches that meet again. -/
set_option linter.unusedVariables false
set_option linter.unusedSimpArgs false
namespace Go.Ch
open Go.RowKit (wrap64)
open Enc (sg)

section
variable {P : Program} {ops : Array Oper} {Q : Exit → Act → World → Prop} {md : Region.Mode}

theorem getD_ne {l : Array Bool} {i j : Nat} (b d : Bool) (h : i ≠ j) : (l.setIfInBounds i b).getD j d = l.getD j d := by
  simp [Array.getD_eq_getD_getElem?, Array.getElem?_setIfInBounds_ne h]

/-- The condition: J0 until operation s has come up, J1 from there on. -/
def JJ (s : Nat) (J0 J1 : World → Prop) (listed : Array Bool) (w : World) : Prop := if listed.getD s false = true then J1 w else J0 w

def wpAnyL (P : Program) (md : Region.Mode) (ops : Array Oper) (Q : Exit → Act → World → Prop) (J : Array Bool → World → Prop) : Nat → Array Bool → Act → World → Prop
  | 0, listed, a, w => Region.ready md ops listed = [] ∧ Q .normal a w
  | fuel + 1, listed, a, w =>
    (Region.ready md ops listed = [] → Q .normal a w) ∧
    ∀ i ∈ Region.ready md ops listed, wpOp P ops Q i (fun a' w' => J (listed.setIfInBounds i true) w' ∧ wpAnyL P md ops Q J fuel (listed.setIfInBounds i true) a' w') a w

theorem wpAny_of_L {J : Array Bool → World → Prop} : ∀ (fuel : Nat) (listed : Array Bool) (a : Act) (w : World), wpAnyL P md ops Q J fuel listed a w → wpAny P md ops Q fuel listed a w
  | 0, _, _, _, h => h
  | fuel + 1, _, _, _, h => ⟨h.1, fun i hi => wpOp_mono (fun a' w' h' => wpAny_of_L fuel _ a' w' h'.2) (h.2 i hi)⟩

theorem wpAnyL_first {s i : Nat} {J0 J1 Si : World → Prop} {Inv : Array Bool → Prop} {oi : Oper} {v : Value} (hi : ops[i]? = some oi) (hsel : ∀ (j : Nat) (o : Oper) cs b, ops[j]? = some o → o.op ≠ .select cs b)
    (hQ : ∀ c a w, Q (.panic c) (a.put oi.dst v) w → Q (.panic c) a w) (his : i ≠ s)
    (hInv : ∀ l j, Inv l → j ∈ Region.ready md ops l → j ≠ i → Inv (l.setIfInBounds j true))
    (hJ : ∀ l w, Inv l → JJ s J0 J1 l w → Si w) :
    ∀ (fuel : Nat) (listed : Array Bool) (a : Act) (w : World),
      (∀ j oj, ops[j]? = some oj → j ≠ i → listed.getD j true = false → (∀ e ∈ oj.after, Region.binds md e = true → e.on ≠ i) → oi.apart ops oj = true) →
      i ∈ Region.ready md ops listed → Inv listed → YieldsIf P ops Si oi v a → JJ s J0 J1 listed w →
      wpAnyL P md ops Q (JJ s J0 J1) fuel (listed.setIfInBounds i true) (a.put oi.dst v) w → wpAnyL P md ops Q (JJ s J0 J1) (fuel + 1) listed a w := by
  have jset : ∀ (l : Array Bool) w, JJ s J0 J1 (l.setIfInBounds i true) w ↔ JJ s J0 J1 l w := fun l w => by
    unfold JJ; rw [getD_ne true false his]
  intro fuel
  induction fuel with
  | zero =>
    intro listed a w _ hr hI hy hS H
    refine ⟨fun h => (by rw [h] at hr; cases hr), fun j hj => ?_⟩
    by_cases hji : j = i
    · subst hji; exact hy.wpOp hi (hJ _ _ hI hS) ⟨(jset _ _).2 hS, H⟩
    · have := ready_mono hj hji
      rw [H.1] at this
      cases this
  | succ fuel ih =>
    intro listed a w hfree hr hI hy hS H
    refine ⟨fun h => (by rw [h] at hr; cases hr), fun j hj => ?_⟩
    by_cases hji : j = i
    · subst hji; exact hy.wpOp hi (hJ _ _ hI hS) ⟨(jset _ _).2 hS, H⟩
    · have h1 := H.2 j (ready_mono hj hji)
      obtain ⟨hjun, oj, hoj, hall⟩ := mem_ready.1 hj
      have hnot : ∀ e ∈ oj.after, Region.binds md e = true → e.on ≠ i := fun e he hb heq => by
        have h1 := hall e he hb
        have h0 := (mem_ready.1 hr).1
        rw [heq] at h1
        rcases Nat.lt_or_ge i listed.size with h' | h'
        · simp [h'] at h0 h1; rw [h0] at h1; cases h1
        · simp [Array.getElem?_eq_none h'] at h1
      have h2 := wpOp_putIf hoj (hfree j oj hoj hji hjun hnot) (fun cs b => hsel i oi cs b hi) (fun cs b => hsel j oj cs b hoj) hQ hy h1
      have hfree' : ∀ k ok, ops[k]? = some ok → k ≠ i → (listed.setIfInBounds j true).getD k true = false →
          (∀ e ∈ ok.after, Region.binds md e = true → e.on ≠ i) → oi.apart ops ok = true := fun k ok hk hki hun hno => by
        refine hfree k ok hk hki ?_ hno
        by_cases hjk : j = k
        · subst hjk; exact hjun
        · rw [getD_set_ne true hjk] at hun; exact hun
      refine wpOp_mono (fun a' w' h3 => ?_) h2
      obtain ⟨h4, h5, h6⟩ := h3
      rw [Array.setIfInBounds_comm _ _ (Ne.symm hji), jset] at h5
      exact ⟨h5, ih (listed.setIfInBounds j true) a' w' hfree' (ready_mono hr (Ne.symm hji)) (hInv _ _ hI hj hji) h4 h5 (by rw [Array.setIfInBounds_comm _ _ hji]; exact h6)⟩

/-- i comes up ahead of the last of D: each other one of D waits for one of D. -/
def waits (ops : Array Oper) (listed : Array Bool) (i : Nat) (D : List Nat) : Bool :=
  D.all fun j => !listed.getD j false && (j == i || ((ops[j]?).map fun o => o.after.any fun e => Region.binds .any e && D.contains e.on).getD false)

theorem wpAnyL_strong {s i : Nat} {J0 J1 : World → Prop} {oi : Oper} {v : Value} {fuel : Nat} {listed : Array Bool} {a : Act} {w : World} (D : List Nat) (hi : ops[i]? = some oi)
    (hsel : Region.noSelect ops = true) (hf : Region.free .any ops listed i = true) (hr : (Region.ready .any ops listed).contains i = true)
    (hD : waits ops listed i D = true) (hsD : D.contains s = true) (his : i ≠ s)
    (hQ : ∀ c a w, Q (.panic c) (a.put oi.dst v) w → Q (.panic c) a w) (hy : YieldsIf P ops J0 oi v a) (hS : J0 w)
    (h : wpAnyL P .any ops Q (JJ s J0 J1) fuel (listed.setIfInBounds i true) (a.put oi.dst v) w) : wpAnyL P .any ops Q (JJ s J0 J1) (fuel + 1) listed a w := by
  have hD' : ∀ j ∈ D, listed.getD j false = false ∧ (j = i ∨ ∃ o, ops[j]? = some o ∧ ∃ e ∈ o.after, Region.binds .any e = true ∧ e.on ∈ D) := fun j hj => by
    have := List.all_eq_true.1 hD j hj
    simp only [Bool.and_eq_true, Bool.not_eq_true', Bool.or_eq_true, beq_iff_eq] at this
    refine ⟨this.1, this.2.imp id fun h => ?_⟩
    cases ho : ops[j]? with
    | none => rw [ho] at h; simp at h
    | some o =>
      rw [ho] at h
      simp only [Option.map_some, Option.getD_some, Array.any_eq_true, Bool.and_eq_true, List.contains_iff_mem] at h
      obtain ⟨k, hk, h1, h2⟩ := h
      exact ⟨o, rfl, o.after[k], by simp, h1, h2⟩
  refine wpAnyL_first (Si := J0) (Inv := fun l => ∀ j ∈ D, l.getD j false = false) hi (Region.noSelect_spec hsel) hQ his (fun l j hl hj hji k hk => ?_) (fun l w hl hj => ?_) fuel listed a w (Region.free_spec hi hf) (by simpa using hr) (fun j hj => (hD' j hj).1) hy ?_ h
  · by_cases hjk : j = k
    · subst hjk
      obtain ⟨hju, oj, hoj, hall⟩ := mem_ready.1 hj
      rcases (hD' j hk).2 with e | ⟨o, ho, e, he, hb, hm⟩
      · exact absurd e hji
      · rw [hoj] at ho; cases ho
        have := hall e he hb
        rw [hl _ hm] at this; cases this
    · rw [getD_ne true false hjk]; exact hl k hk
  · unfold JJ at hj
    rw [hl s (by simpa using hsD)] at hj; simpa using hj
  · unfold JJ
    rw [(hD' s (by simpa using hsD)).1]; simpa using hS

theorem wpAnyL_weak {s i : Nat} {J0 J1 : World → Prop} {oi : Oper} {v : Value} {fuel : Nat} {listed : Array Bool} {a : Act} {w : World} (hi : ops[i]? = some oi)
    (hsel : Region.noSelect ops = true) (hf : Region.free .any ops listed i = true) (hr : (Region.ready .any ops listed).contains i = true) (his : i ≠ s) (h01 : ∀ w, J0 w → J1 w)
    (hQ : ∀ c a w, Q (.panic c) (a.put oi.dst v) w → Q (.panic c) a w) (hy : YieldsIf P ops J1 oi v a) (hS : JJ s J0 J1 listed w)
    (h : wpAnyL P .any ops Q (JJ s J0 J1) fuel (listed.setIfInBounds i true) (a.put oi.dst v) w) : wpAnyL P .any ops Q (JJ s J0 J1) (fuel + 1) listed a w :=
  wpAnyL_first (Si := J1) (Inv := fun _ => True) hi (Region.noSelect_spec hsel) hQ his (fun _ _ _ _ _ => trivial) (fun l w _ hj => by unfold JJ at hj; split at hj <;> first | exact hj | exact h01 _ hj) fuel listed a w (Region.free_spec hi hf) (by simpa using hr) trivial hy hS h
end

section
variable {P : Program} {n : Nat} {o : World} {Q : Exit → Act → World → Prop} {E : Env} {S : Hp} {L : List Asn}
variable {C : Env → Hp → List Asn → Prop} {ty t t' : TypeId} {pos : String} {aft : Array Edge} {x y z : Operand} {d : Nat}
variable {ops : Array Oper} {s : Nat} {S0 : Hp} {L0 L1 : List Asn} {fuel : Nat} {listed : Array Bool}

theorem Weak.trans : ∀ {L M N : List Asn}, Weak L M → Weak M N → Weak L N
  | _, _, _, .refl, k => k
  | _, _, _, .same h, .refl => .same h
  | _, _, _, .same h, .same k => .same (h.trans k)
  | _, _, _, .same h, .lose k => .lose (h.trans k)
  | _, _, _, .lose h, .refl => .lose h
  | _, _, _, .lose h, .same k => .lose (h.trans k)
  | _, _, _, .lose h, .lose k => .lose (h.trans k)
theorem Weak.app {L M : List Asn} (h : Weak L M) : ∀ X : List Asn, Weak (X ++ L) (X ++ M)
  | [] => h
  | _ :: X => .same (h.app X)
theorem Jw.weak {w : World} (h : Jw o S0 L0 w) (k : Weak L0 L1) : Jw o S0 L1 w := by
  obtain ⟨S, X, a, b⟩ := h; exact ⟨S, X, a, b.weak (k.app X)⟩

variable (P n o) in
def GDr (ops : Array Oper) (Q : Exit → Act → World → Prop) (s : Nat) (S0 : Hp) (L0 L1 : List Asn) (fuel : Nat) (listed : Array Bool) (E : Env) (S : Hp) (L : List Asn) : Prop :=
  ∀ a w, Fits n E a → Sat o S L w → JJ s (Jw o S0 L0) (Jw o S0 L1) listed w → wpAnyL P .any ops Q (JJ s (Jw o S0 L0) (Jw o S0 L1)) fuel listed a w

/-- The region: s is the first operation that writes what stands. -/
theorem G.drawS {id : Nat} (s : Nat) (L0 L1 : List Asn) (hm : P.follows .mixedOrders = true) (hw : Weak L L0) (hs : (Array.replicate ops.size false).getD s false = false)
    (h : GDr P n o ops Q s S L0 L1 ops.size (Array.replicate ops.size false) E S L) : G P n o (.region id ops true) Q E S L :=
  fun a w f st => wp_region_any hm (wpAny_of_L _ _ _ _ (h a _ f st.drew (by unfold JJ; rw [hs]; exact ⟨S, [], Hp.le_refl _, st.drew.weak hw⟩)))

theorem G.drawN {id : Nat} (s : Nat) (hm : P.follows .mixedOrders = true) (hs : (Array.replicate ops.size false).getD s false = false)
    (h : GDr P n o ops Q s S L L ops.size (Array.replicate ops.size false) E S L) : G P n o (.region id ops true) Q E S L := G.drawS s L L hm .refl hs h

/-- What a guard says. -/
def Gd (n : Nat) (ops : Array Oper) (E : Env) (g : Option (Nat × Bool)) (on : Bool) : Prop :=
  ∀ a, Fits n E a → ∀ dst op ty pos aft, Region.wanted ⟨dst, op, ty, pos, aft, g⟩ (yielded ops a.tmps) = on
theorem Gd.none : Gd n ops E none true := fun a f _ _ _ _ _ => rfl
theorem Gd.is {j : Nat} {want b : Bool} (t : Nat) (hs : slotOf ops j = some t) (ht : t < n) (hb : E.lookup t = some (.bool b)) (he : b = want) : Gd n ops E (some (j, want)) true := fun a f _ _ _ _ _ => by
  simp [Region.wanted, yielded_of f hs hb ht, he]
theorem Gd.isnt {j : Nat} {want b : Bool} (t : Nat) (hs : slotOf ops j = some t) (ht : t < n) (hb : E.lookup t = some (.bool b)) (he : b ≠ want) : Gd n ops E (some (j, want)) false := fun a f _ _ _ _ _ => by
  simp [Region.wanted, yielded_of f hs hb ht, he]
theorem Gd.undef {j : Nat} {want : Bool} (t : Nat) (hs : slotOf ops j = some t) (ht : t < n) (hb : E.lookup t = some undef) : Gd n ops E (some (j, want)) false := fun a f _ _ _ _ _ => by
  have hy : yielded ops a.tmps j = Option.none := by
    have e := f.at_ t _ hb
    have hlt : t < a.tmps.size := by rw [f.size]; exact ht
    unfold slotOf at hs
    unfold yielded
    rw [hs]
    simp only [Option.bind_some]
    rw [Array.getD_eq_getD_getElem?, Array.getElem?_eq_getElem hlt] at e
    rw [Array.getElem?_eq_getElem hlt]
    simp at e
    rw [e]; rfl
  simp [Region.wanted, hy]

theorem Lk {X M : List Asn} {j : Nat} {A : Asn} (h : M[j]? = some A) : (X ++ M)[X.length + j]? = some A := by
  rw [List.getElem?_append_right (by omega)]; simpa using h

variable {g : Option (Nat × Bool)} {op : Op} {v : Value} {dst : Option Tmp}
/-- Taken first: it leans on what stands until s comes up. -/
theorem GDr.take (i : Nat) (D : List Nat) (v : Value) (hi : ops[i]? = some ⟨some d, op, ty, pos, aft, g⟩) (hsel : Region.noSelect ops = true)
    (hf : Region.free .any ops listed i = true) (hr : (Region.ready .any ops listed).contains i = true) (hD : waits ops listed i D = true) (hsD : D.contains s = true) (his : (i == s) = false)
    (hQ : noPanicQ Q) (hd : d < n) (hg : Gd n ops E g true)
    (hy : ∀ S' X, S0.le S' → Yld P n o E S' (X ++ L0) op ty v) (h : GDr P n o ops Q s S0 L0 L1 fuel (listed.setIfInBounds i true) ((d, v) :: E) S L) : GDr P n o ops Q s S0 L0 L1 (fuel + 1) listed E S L :=
  fun a w f st j => by
    have hs : listed.getD s false = false := by
      have := List.all_eq_true.1 hD s (by simpa using hsD)
      simp only [Bool.and_eq_true, Bool.not_eq_true'] at this; exact this.1
    have his' : i ≠ s := by simpa using his
    have j0 : Jw o S0 L0 w := by unfold JJ at j; rw [hs] at j; simpa using j
    refine wpAnyL_strong D hi hsel hf hr hD hsD his' (fun c a w q => hQ c a _ _ w q) (.inl ⟨hg a f _ _ _ _ _, fun w' ⟨S', X, e1, e2⟩ => hy S' X e1 a w' f e2 _ _ _ _⟩) j0 (h _ _ (f.put hd v) st ?_)
    unfold JJ; rw [getD_ne true false his', hs]; simpa using j0
/-- Taken first: it leans on what stands throughout. -/
theorem GDr.takeW (i : Nat) (v : Value) (hi : ops[i]? = some ⟨some d, op, ty, pos, aft, g⟩) (hsel : Region.noSelect ops = true)
    (hf : Region.free .any ops listed i = true) (hr : (Region.ready .any ops listed).contains i = true) (his : (i == s) = false) (hw : Weak L0 L1)
    (hQ : noPanicQ Q) (hd : d < n) (hg : Gd n ops E g true)
    (hy : ∀ S' X, S0.le S' → Yld P n o E S' (X ++ L1) op ty v) (h : GDr P n o ops Q s S0 L0 L1 fuel (listed.setIfInBounds i true) ((d, v) :: E) S L) : GDr P n o ops Q s S0 L0 L1 (fuel + 1) listed E S L :=
  fun a w f st j => by
    have his' : i ≠ s := by simpa using his
    refine wpAnyL_weak hi hsel hf hr his' (fun w q => q.weak hw) (fun c a w q => hQ c a _ _ w q) (.inl ⟨hg a f _ _ _ _ _, fun w' ⟨S', X, e1, e2⟩ => hy S' X e1 a w' f e2 _ _ _ _⟩) j (h _ _ (f.put hd v) st ?_)
    unfold JJ at j ⊢; rw [getD_ne true false his']; exact j
/-- One that isn't wanted. -/
theorem GDr.off (i : Nat) (hi : ops[i]? = some ⟨some d, op, ty, pos, aft, g⟩) (hsel : Region.noSelect ops = true)
    (hf : Region.free .any ops listed i = true) (hr : (Region.ready .any ops listed).contains i = true) (his : (i == s) = false) (hw : Weak L0 L1)
    (hQ : noPanicQ Q) (hd : d < n) (hg : Gd n ops E g false)
    (h : GDr P n o ops Q s S0 L0 L1 fuel (listed.setIfInBounds i true) ((d, undef) :: E) S L) : GDr P n o ops Q s S0 L0 L1 (fuel + 1) listed E S L :=
  fun a w f st j => by
    have his' : i ≠ s := by simpa using his
    refine wpAnyL_weak hi hsel hf hr his' (fun w q => q.weak hw) (fun c a w q => hQ c a _ _ w q) (.inr ⟨hg a f _ _ _ _ _, rfl⟩) j (h _ _ (f.put hd undef) st ?_)
    unfold JJ at j ⊢; rw [getD_ne true false his']; exact j

variable (P n o) in
/-- Number i comes up. -/
def GD1 (ops : Array Oper) (Q : Exit → Act → World → Prop) (s : Nat) (S0 : Hp) (L0 L1 : List Asn) (fuel : Nat) (listed : Array Bool) (E : Env) (S : Hp) (L : List Asn) (i : Nat) : Prop :=
  ∀ a w, Fits n E a → Sat o S L w → JJ s (Jw o S0 L0) (Jw o S0 L1) listed w →
    wpOp P ops Q i (fun a' w' => JJ s (Jw o S0 L0) (Jw o S0 L1) (listed.setIfInBounds i true) w' ∧ wpAnyL P .any ops Q (JJ s (Jw o S0 L0) (Jw o S0 L1)) fuel (listed.setIfInBounds i true) a' w') a w
def AllR (f : Nat → Prop) : List Nat → Prop
  | [] => True
  | [i] => f i
  | i :: l => f i ∧ AllR f l
theorem AllR.mem {f : Nat → Prop} : ∀ {l : List Nat}, AllR f l → ∀ i ∈ l, f i
  | [], _, i, h => by cases h
  | [k], h, i, hi => by simp at hi; subst hi; exact h
  | k :: m :: l, h, i, hi => by
    rcases List.mem_cons.1 hi with e | e
    · subst e; exact h.1
    · exact AllR.mem (l := m :: l) h.2 i e
theorem AllR.one {f : Nat → Prop} {i : Nat} (h : f i) : AllR f [i] := h
theorem AllR.two {f : Nat → Prop} {i j : Nat} (h : f i) (h2 : f j) : AllR f [i, j] := ⟨h, h2⟩
/-- Whichever comes up. -/
theorem GDr.any (rs : List Nat) (hr : Region.ready .any ops listed = rs) (hne : (rs == []) = false) (h : AllR (GD1 P n o ops Q s S0 L0 L1 fuel listed E S L) rs) : GDr P n o ops Q s S0 L0 L1 (fuel + 1) listed E S L :=
  fun a w f st j => ⟨fun h0 => by rw [hr] at h0; subst h0; simp at hne, fun i hi => by rw [hr] at hi; exact h.mem i hi a w f st j⟩
theorem GD1.on {i : Nat} (hi : ops[i]? = some ⟨dst, op, ty, pos, aft, g⟩) (hg : Gd n ops E g true) (hs : (listed.setIfInBounds i true).getD s false = false)
    (h : OS P n o Q ⟨dst, op, ty, pos, aft, none⟩ E S L fun E' S' L' => (∃ X, Weak L' (X ++ L0) ∧ S0.le S') ∧ GDr P n o ops Q s S0 L0 L1 fuel (listed.setIfInBounds i true) E' S' L') : GD1 P n o ops Q s S0 L0 L1 fuel listed E S L i :=
  fun a w f st j => by
    unfold wpOp
    rw [hi]
    simp only [hg a f, if_true]
    have hh := h (fun a' w' => JJ s (Jw o S0 L0) (Jw o S0 L1) (listed.setIfInBounds i true) w' ∧ wpAnyL P .any ops Q (JJ s (Jw o S0 L0) (Jw o S0 L1)) fuel (listed.setIfInBounds i true) a' w') (fun E' S' L' ⟨⟨X, e1, e2⟩, gd⟩ a' w' f' s' => ?_) a w f st
    · exact .inl hh
    have hj : JJ s (Jw o S0 L0) (Jw o S0 L1) (listed.setIfInBounds i true) w' := by unfold JJ; rw [hs]; exact ⟨S', X, e2, s'.weak e1⟩
    exact ⟨hj, gd a' w' f' s' hj⟩
theorem GD1.on1 {i : Nat} (hi : ops[i]? = some ⟨dst, op, ty, pos, aft, g⟩) (hg : Gd n ops E g true) (hs : (listed.setIfInBounds i true).getD s false = true)
    (h : OS P n o Q ⟨dst, op, ty, pos, aft, none⟩ E S L fun E' S' L' => (∃ X, Weak L' (X ++ L1) ∧ S0.le S') ∧ GDr P n o ops Q s S0 L0 L1 fuel (listed.setIfInBounds i true) E' S' L') : GD1 P n o ops Q s S0 L0 L1 fuel listed E S L i :=
  fun a w f st j => by
    unfold wpOp
    rw [hi]
    simp only [hg a f, if_true]
    have hh := h (fun a' w' => JJ s (Jw o S0 L0) (Jw o S0 L1) (listed.setIfInBounds i true) w' ∧ wpAnyL P .any ops Q (JJ s (Jw o S0 L0) (Jw o S0 L1)) fuel (listed.setIfInBounds i true) a' w') (fun E' S' L' ⟨⟨X, e1, e2⟩, gd⟩ a' w' f' s' => ?_) a w f st
    · exact .inl hh
    have hj : JJ s (Jw o S0 L0) (Jw o S0 L1) (listed.setIfInBounds i true) w' := by unfold JJ; rw [hs]; exact ⟨S', X, e2, s'.weak e1⟩
    exact ⟨hj, gd a' w' f' s' hj⟩
theorem GD1.skip {i : Nat} (hi : ops[i]? = some ⟨none, op, ty, pos, aft, g⟩) (hg : Gd n ops E g false) (his : (i == s) = false)
    (h : GDr P n o ops Q s S0 L0 L1 fuel (listed.setIfInBounds i true) E S L) : GD1 P n o ops Q s S0 L0 L1 fuel listed E S L i :=
  fun a w f st j => by
    unfold wpOp
    rw [hi]
    simp only [hg a f, Bool.false_eq_true, if_false]
    have hj : JJ s (Jw o S0 L0) (Jw o S0 L1) (listed.setIfInBounds i true) w := by
      have : i ≠ s := by simpa using his
      unfold JJ at j ⊢; rw [getD_ne true false this]; exact j
    exact ⟨hj, h _ _ (f.none _) st hj⟩
theorem GDr.done (hr : Region.ready .any ops listed = []) (h : GX n o .normal Q E S L) : GDr P n o ops Q s S0 L0 L1 fuel listed E S L := fun a w f st j => by
  have := h a w f st
  cases fuel with
  | zero => exact ⟨hr, this⟩
  | succ k => exact ⟨fun _ => this, by rw [hr]; simp⟩
theorem GDr.shareR {α : Type} [Enc α] {v : Value} {xs : List α} (k : Nat) (hk : L[k]? = some (Rw v xs)) (h : ∀ S', S.le S' → Sls S' v xs → GDr P n o ops Q s S0 L0 L1 fuel listed E S' (L.set k fun _ => True)) : GDr P n o ops Q s S0 L0 L1 fuel listed E S L :=
  fun a w f s j => by obtain ⟨S', e1, e2, e3⟩ := Rw.share s hk; exact h S' e1 e3 a w f e2 j
theorem GDr.nilRow {α : Type} [Enc α] (h : GDr P n o ops Q s S0 L0 L1 fuel listed E S (Rw (.slice none 0 0) ([] : List α) :: L)) : GDr P n o ops Q s S0 L0 L1 fuel listed E S L := fun a w f s j =>
  h a w f ⟨s.os, s.tape, s.output, s.stay, Holds.cons (h1 := fun _ => none) (.inl ⟨rfl, rfl⟩) (fun b x q => by simp at q) (Hp.le_refl _) (fun b x q => rfl) s.own⟩ j

/-! ### ways that meet again -/
theorem G.cut {c : Code} (R : Env → Hp → List Asn → Prop)
    (h1 : ∀ K : Act → World → Prop, (∀ E' S' L', R E' S' L' → GX n o .normal (Exit.then K Q) E' S' L') → G P n o c (Exit.then K Q) E S L)
    (h2 : ∀ E' S' L', R E' S' L' → GX n o .normal Q E' S' L') : G P n o c Q E S L := fun a w f s =>
  wp_mono (h1 (fun a w => ∃ E' S' L', R E' S' L' ∧ Fits n E' a ∧ Sat o S' L' w) (fun E' S' L' r a w f s => ⟨E', S', L', r, f, s⟩) a w f s) fun e a w q => by
    cases e <;> first | exact q | (obtain ⟨E', S', L', r, f, s⟩ := q; exact h2 E' S' L' r a w f s)

theorem Holds.swap {A B : Asn} {L : List Asn} {h : Hp} : Holds (A :: B :: L) h → Holds (B :: A :: L) h := fun ⟨h1, a, b, h2, c, d, e⟩ => by
  have d' : ∀ p x, h2 p = some x → h1 p = none ∧ h p = some x := fun p x q => Hp.minus_some (d p x q)
  refine ⟨h2, c, fun p x q => (d' p x q).2, h1, a, fun p x q => Hp.minus_mk ?_ (b p x q), e.mono fun p x q => ?_⟩
  · cases r : h2 p with
    | none => rfl
    | some y => have := (d' p y r).1; rw [q] at this; simp at this
  · obtain ⟨q1, q2⟩ := Hp.minus_some q
    obtain ⟨q3, q4⟩ := Hp.minus_some q2
    exact Hp.minus_mk q3 (Hp.minus_mk q1 q4)
theorem Holds.perm {L M : List Asn} (p : L.Perm M) : ∀ {h : Hp}, Holds L h → Holds M h := by
  induction p with
  | nil => exact id
  | cons x _ ih => exact fun ⟨h1, a, b, c⟩ => ⟨h1, a, b, ih c⟩
  | swap x y l => exact Holds.swap
  | trans _ _ i1 i2 => exact fun H => i2 (i1 H)
theorem Sat.perm {M : List Asn} {w : World} (s : Sat o S L w) (p : L.Perm M) : Sat o S M w := ⟨s.os, s.tape, s.output, s.stay, s.own.perm p⟩
theorem GX.perm {e : Exit} {M : List Asn} (p : L.Perm M) (h : GX n o e Q E S M) : GX n o e Q E S L := fun a w f s => h a w f (s.perm p)
/-! ### elements' addresses -/
end
end Go.Ch
namespace Go.Ch
section
variable {P : Program} {n : Nat} {o : World} {Q : Exit → Act → World → Prop} {E : Env} {S : Hp} {L : List Asn}
theorem G.loopK {σ β : Type} (step : σ → Option (σ ⊕ β)) (I : σ → Env → Hp → List Asn → Prop) {c : Code} {s0 : σ} (b : β) (xid : Nat) (R : Env → Hp → List Asn → Prop) (h0 : iter step s0 = some b)
    (hx : ∀ E' S' L', R E' S' L' → GX n o (.exit xid) Q E' S' L') (hI : I s0 E S L)
    (hbody : ∀ s E S L, I s E S L → ∀ out, step s = some out → (∀ b', out = .inr b' → b' = b) → ∀ K : Act → World → Prop,
      (∀ s' E' S' L', out = .inl s' → I s' E' S' L' → GX n o .normal (Exit.then K Q) E' S' L') →
      (∀ E' S' L', R E' S' L' → GX n o (.exit xid) (Exit.then K Q) E' S' L') → G P n o c (Exit.then K Q) E S L) : G P n o (.loop c) Q E S L :=
  G.loop step I b h0 hI fun s E S L hI out hs hb K hK => hbody s E S L hI out hs hb K hK fun E' S' L' r => hx E' S' L' r
end
end Go.Ch
end
section
/- More rules: elements' addresses as plain values, array literals, makes, conversions, copies, function values. -/
set_option linter.unusedVariables false
set_option linter.unusedSimpArgs false
namespace Go.Ch
open Go.RowKit (wrap64)
open Enc (sg)

section
variable {P : Program} {n : Nat} {o : World} {Q : Exit → Act → World → Prop} {E : Env} {S : Hp} {L : List Asn}
variable {C : Env → Hp → List Asn → Prop} {ty t t' : TypeId} {pos : String} {aft : Array Edge} {x y z : Operand} {d : Nat}
variable {α : Type} [Enc α]

/-! ### elements -/
def IdxA (v : Value) (len : Nat) (i : Int) (k b off : Nat) : Prop := ∃ o' cap, v = .slice (some ⟨b, o', none⟩) len cap ∧ off = o' + i.toNat * k
theorem Sls.at {v : Value} {xs : List α} (h : Sls S v xs) {i : Int} (hi : 0 ≤ i ∧ i < lenI xs) :
    ∃ b off, IdxA v xs.length i (Enc.k α) b off ∧ At S b off (Ch.cells (sg (getI xs i))) := by
  obtain ⟨b, off, cap, e, hat⟩ := h.elem hi.1 hi.2
  exact ⟨b, _, ⟨off, cap, e, rfl⟩, hat⟩
theorem Y.idxS {v : Value} {kd : IntKind} {i : Int} {k len b off : Nat} (hx : ev E x = some v) (hv : IdxA v len i k b off) (hy : ev E y = some (.int kd i)) (ht : SlcT P t k)
    (hi : 0 ≤ i ∧ i < (len : Int)) : Yld P n o E S L (.indexAddr t x y) ty (.pointer (some ⟨b, off, none⟩)) := fun a w f s _ _ _ _ => by
  obtain ⟨o', cap, e, rfl⟩ := hv
  subst e
  obtain ⟨el, e1, e2⟩ := ht.e
  simp [execOp, f.eval hx, f.eval hy, Instr.indexAt, asIntOf, run_underlying e1, hi, run_sizeOf_of e2, Addr.add_mid]
theorem Y.idxR {v : Value} {kd : IntKind} {i : Int} {k len g cap : Nat} (hx : ev E x = some v) (hv : v = .slice (some ⟨g, 0, none⟩) len cap) (hy : ev E y = some (.int kd i)) (ht : SlcT P t k)
    (hi : 0 ≤ i ∧ i < (len : Int)) : Yld P n o E S L (.indexAddr t x y) ty (.pointer (some ⟨g, i.toNat * k, none⟩)) := fun a w f s _ _ _ _ => by
  subst hv
  obtain ⟨el, e1, e2⟩ := ht.e
  simp [execOp, f.eval hx, f.eval hy, Instr.indexAt, asIntOf, run_underlying e1, hi, run_sizeOf_of e2, Addr.add_mid]
theorem Rw.form {w : World} {v : Value} {xs : List α} {k : Nat} (s : Sat o S L w) (hk : L[k]? = some (Rw v xs)) {i : Int} (hi : 0 ≤ i ∧ i < lenI xs) : ∃ g cap, v = .slice (some ⟨g, 0, none⟩) xs.length cap := by
  obtain ⟨h1, a', _, _⟩ := s.get hk
  have hi' : 0 ≤ i ∧ i < (xs.length : Int) := hi
  rcases a' with ⟨rfl, rfl⟩ | ⟨g, cap, _, _, _, rfl, _⟩
  · simp at hi'; omega
  · exact ⟨g, cap, rfl⟩
theorem GO.rowAt {ops : Array Oper} {l : List Oper} {v : Value} {xs : List α} (k : Nat) (hk : L[k]? = some (Rw v xs)) {i : Int} (hi : 0 ≤ i ∧ i < lenI xs)
    (h : ∀ g cap, v = .slice (some ⟨g, 0, none⟩) xs.length cap → GO P n o ops l Q E S L) : GO P n o ops l Q E S L := fun a w f s => by
  obtain ⟨g, cap, e⟩ := Rw.form s hk hi; exact h g cap e a w f s
theorem G.rowAt {c : Code} {v : Value} {xs : List α} (k : Nat) (hk : L[k]? = some (Rw v xs)) {i : Int} (hi : 0 ≤ i ∧ i < lenI xs)
    (h : ∀ g cap, v = .slice (some ⟨g, 0, none⟩) xs.length cap → G P n o c Q E S L) : G P n o c Q E S L := fun a w f s => by
  obtain ⟨g, cap, e⟩ := Rw.form s hk hi; exact h g cap e a w f s
theorem GDr.rowAt {ops : Array Oper} {s : Nat} {S0 : Hp} {L0 L1 : List Asn} {fuel : Nat} {listed : Array Bool} {v : Value} {xs : List α} (k : Nat) (hk : L[k]? = some (Rw v xs)) {i : Int} (hi : 0 ≤ i ∧ i < lenI xs)
    (h : ∀ g cap, v = .slice (some ⟨g, 0, none⟩) xs.length cap → GDr P n o ops Q s S0 L0 L1 fuel listed E S L) : GDr P n o ops Q s S0 L0 L1 fuel listed E S L := fun a w f s j => by
  obtain ⟨g, cap, e⟩ := Rw.form s hk hi; exact h g cap e a w f s j

theorem cells_one {v : Value} (h : v.oneCell' = true) : v.cells.toList = Ch.cells [sV v] := by
  cases v <;> first | rfl | simp [Value.oneCell'] at h
theorem Rw.one1 {v : Value} {xs : List α} {h1 : Hp} (a' : Rw v xs h1) : v.oneCell' = true := by
  rcases a' with ⟨rfl, rfl⟩ | ⟨g, cap, _, _, _, rfl, _⟩ <;> rfl
theorem GO.rowOne {ops : Array Oper} {l : List Oper} {v : Value} {xs : List α} (k : Nat) (hk : L[k]? = some (Rw v xs))
    (h : v.oneCell' = true → GO P n o ops l Q E S L) : GO P n o ops l Q E S L := fun a w f s => by
  obtain ⟨h1, a', _, _⟩ := s.get hk; exact h a'.one1 a w f s
theorem GDr.rowOne {ops : Array Oper} {s : Nat} {S0 : Hp} {L0 L1 : List Asn} {fuel : Nat} {listed : Array Bool} {v : Value} {xs : List α} (k : Nat) (hk : L[k]? = some (Rw v xs))
    (h : v.oneCell' = true → GDr P n o ops Q s S0 L0 L1 fuel listed E S L) : GDr P n o ops Q s S0 L0 L1 fuel listed E S L := fun a w f s j => by
  obtain ⟨h1, a', _, _⟩ := s.get hk; exact h a'.one1 a w f s j
theorem GX.shareR {e : Exit} {v : Value} {xs : List α} (k : Nat) (hk : L[k]? = some (Rw v xs)) (h : ∀ S', S.le S' → Sls S' v xs → GX n o e Q E S' (L.set k fun _ => True)) : GX n o e Q E S L :=
  fun a w f s => by obtain ⟨S', e1, e2, e3⟩ := Rw.share s hk; exact h S' e1 e3 a w f e2

/-! ### array literals -/
def setAll : List Value → List (Nat × Value) → List Value
  | cs, [] => cs
  | cs, (i, v) :: r => setAll (cs.set i v) r
def isI : Value → Bool
  | .int _ _ => true
  | _ => false
theorem fill_one : ∀ (ps : List (Nat × Value)) (cs : List Value), (ps.all fun p => isI p.2 && decide (p.1 < cs.length)) = true →
    Instr.fill (fun i => some (i * 1, 1)) cs.toArray ps = some (setAll cs ps).toArray
  | [], cs, _ => rfl
  | (i, v) :: r, cs, h => by
    simp only [List.all_cons, Bool.and_eq_true, decide_eq_true_eq] at h
    obtain ⟨⟨h1, h2⟩, h3⟩ := h
    have hv : v.cells = #[v] := by cases v <;> first | rfl | simp [isI] at h1
    have hc : ¬ (v.cells.size ≠ 1 || i * 1 + v.cells.size > cs.toArray.size) = true := by rw [hv]; simp; omega
    have ih := fill_one r (cs.set i v) (by rw [List.length_set]; exact h3)
    simp only [Instr.fill, if_neg hc, setAll]
    rw [← ih, hv]
    simp [Nat.mul_one]
theorem Y.buildA {parts : List (Nat × Operand)} {len : Nat} {segs0 : List Seg} (vals : List Value) (out : List Seg) (ht : ArrT P t len 1) (hz : ZeroT P t segs0)
    (hv : evs E (parts.map Prod.snd) = some vals) (hi : (((parts.map Prod.fst).zip vals).all fun p => isI p.2 && decide (p.1 < (cells segs0).length)) = true)
    (hb : setAll (cells segs0) ((parts.map Prod.fst).zip vals) = cells out) : Yld P n o E S L (.build t parts.toArray) ty (aggV out) :=
  fun a w f s d' pos aft g => by
    obtain ⟨el, e1, e2⟩ := ht.e
    obtain ⟨v, e3, e4⟩ := hz.run (P := P) w
    have e5 : (parts.toArray.map fun (i, x) => (i, a.eval x)).toList = (parts.map Prod.fst).zip vals := by
      rw [← f.evals hv, List.map_map, List.zip_map']; simp
    have e6 := fill_one _ _ hi
    simp only [execOp, Instr.build]
    simp only [Sem.run_bind, e3, Result.andThen_ok, run_underlying e1, run_sizeOf_of e2, e5, e4, e6, hb, Sem.run_pure]
    rfl

/-! ### makes -/
structure ElZ (P : Program) (t : TypeId) (α : Type) [Enc α] : Prop where
  e : ∃ el i z, P.underlying t = some (.slice el) ∧ P.info? el = some i ∧ i.size = Enc.k α ∧ i.bytes ≤ 32768 ∧ i.zero = some z ∧ z.cells = (cells (sg (default : α))).toArray
theorem ElZ.of {el : TypeId} (z : Value) (h1 : P.underlying t = some (.slice el)) (h2 : (P.info? el).map (·.size) = some (Enc.k α))
    (h3 : ((P.info? el).map fun i => decide (i.bytes ≤ 32768)) = some true) (h4 : (P.info? el).bind (·.zero) = some z) (h5 : z.cells = (cells (sg (default : α))).toArray) : ElZ P t α := by
  cases hq : P.info? el with
  | none => simp [hq] at h2
  | some i => simp [hq] at h2 h3 h4; exact ⟨el, i, z, h1, hq, h2, h3, h4, h5⟩
theorem encL_replicate (c : Nat) (x : α) (zero : Array Value) (hz : zero = (cells (sg x)).toArray) :
    (Array.range (c * Enc.k α)).map (zero[· % zero.size]!) = (encL (List.replicate c x)).toArray := by
  subst hz
  have hk : (cells (sg x)).length = Enc.k α := by rw [length_cells, Enc.hk]
  have hp := Enc.pos (α := α)
  apply Array.ext
  · simp [length_encL]
  · intro j h1 h2
    simp at h1
    have e : ∀ c j, j < c * Enc.k α → (encL (List.replicate c x))[j]? = (cells (sg x))[j % Enc.k α]? := by
      intro c
      induction c with
      | zero => intro j h; simp at h
      | succ c ih =>
        intro j h
        rw [List.replicate_succ, encL_cons]
        rcases Nat.lt_or_ge j (Enc.k α) with h' | h'
        · rw [List.getElem?_append_left (by omega), Nat.mod_eq_of_lt h']
        · rw [List.getElem?_append_right (by omega), hk, ih _ (by rw [Nat.add_mul] at h; omega)]
          congr 1
          rw [Nat.mod_eq_sub_mod h']
    have := e c j h1
    have hm : j % Enc.k α < (cells (sg x)).length := by rw [hk]; exact Nat.mod_lt _ hp
    rw [List.getElem?_eq_getElem (by rw [length_encL]; simpa using h1), List.getElem?_eq_getElem hm] at this
    simp only [Option.some.injEq] at this
    simp only [Array.getElem_map, Array.getElem_range, List.getElem_toArray, this, List.size_toArray]
    rw [hk]
    simp [hm]
theorem OS.make {m : Int} (hd : d < n) (hx : ev E x = some (.int .i64 m)) (hy : ev E y = some (.int .i64 m)) (ht : ElZ P t α) (hm : 0 ≤ m ∧ m ≤ (LIM : Nat))
    (h : ∀ v, C ((d, v) :: E) S (Rw v (List.replicate m.toNat (default : α)) :: L)) : OS P n o Q ⟨some d, .makeSlice t x y, ty, pos, aft, none⟩ E S L C :=
  OS.gen hd fun a w f s => by
    obtain ⟨el, i, zz, e1, e2, e3, e4, e5, e6⟩ := ht.e
    obtain ⟨h0, hl⟩ := hm
    simp only [LIM] at hl
    have hsz : (sizeOf el).run P w = .ok (Enc.k α) w := run_sizeOf_of (by simp [e2, e3])
    have hz : (zeroValue el).run P w = .ok zz w := by simp [zeroValue, typeInfo, e2, e5]
    have hw : IntKind.i64.wrap m = m := by rw [wrap_i64]; unfold Go.RowKit.wrap64; omega
    have hb : (i.bytes : Int) * m ≤ 32768 * 1073741824 := by
      have a1 : (i.bytes : Int) ≤ 32768 := by omega
      calc (i.bytes : Int) * m ≤ 32768 * m := Int.mul_le_mul_of_nonneg_right a1 h0
        _ ≤ 32768 * 1073741824 := Int.mul_le_mul_of_nonneg_left (by omega) (by omega)
    have hbn : m.toNat * i.bytes ≤ 35184372088832 := by
      have : ((m.toNat * i.bytes : Nat) : Int) = (i.bytes : Int) * m := by rw [Int.natCast_mul, Int.toNat_of_nonneg h0, Int.mul_comm]
      omega
    have hA : Rw (.slice (some ⟨w.heap.size, 0, none⟩) (List.replicate m.toNat (default : α)).length m.toNat) (List.replicate m.toNat (default : α)) (Hp.one w.heap.size (.cells (encL (List.replicate m.toNat (default : α))).toArray el (0, 0))) :=
      Rw.mk1 [] (by simp) (by simp [length_encL]) (by simp) (fun j _ hj => absurd hj (Nat.not_lt_zero j))
    refine ⟨_, w.alloc (.cells (encL (List.replicate m.toNat (default : α))).toArray el), ?_, S, _, s.alloc _ hA, h _⟩
    have t1 : ¬ (m < 0) := by omega
    have t2 : ¬ ((2 ^ 48 : Int) < (i.bytes : Int) * m) := by omega
    have hroom : ∀ w, (askRoom (m.toNat * i.bytes)).run P w = .ok () w := fun w => by
      have : ¬ (m.toNat * i.bytes > roomBytes) := by simp [roomBytes]; omega
      simp [askRoom, this]
    have t3 : ¬ ((2 ^ 48 : Nat) : Int) < (i.bytes : Int) * m := by omega
    have t4 : ¬ ((281474976710656 : Int) < (i.bytes : Int) * m) := by omega
    have hrow := encL_replicate m.toNat (default : α) zz.cells e6
    by_cases hc : m.toNat * Enc.k α = 0
    · have h00 : m.toNat = 0 := by
        rcases Nat.mul_eq_zero.1 hc with h | h
        · exact h
        · have := Enc.pos (α := α); omega
      simp [execOp, Instr.makeSlice, run_underlying e1, f.eval hx, f.eval hy, asInt, asIntOf, typeInfo, e2, hw, t1, t4, hroom, hsz, h00, newRow, encL]
      congr 2
      exact Array.ext (by simp) (by intro i h; simp at h)
    · simp [execOp, Instr.makeSlice, run_underlying e1, f.eval hx, f.eval hy, asInt, asIntOf, typeInfo, e2, hw, t1, t4, hroom, hsz, hc, hz, newRow]
      rw [hrow]

/-! ### the bytes of a string -/
theorem OS.convSB {s : Str} (hd : d < n) (hx : ev E x = some (strV s)) (hs : StrTy P t) (hb : BytesT P t')
    (h : ∀ v, C ((d, v) :: E) S (Rw v s :: L)) : OS P n o Q ⟨some d, .convert t t' x, ty, pos, aft, none⟩ E S L C :=
  OS.gen hd fun a w f st => by
    obtain ⟨el, e1, e2⟩ := hb.e
    have e3 := Lib.run_convert_string_bytes (P := P) w t t' el ⟨s.toArray⟩ hs.e e1 e2
    have hcap : s.length ≤ grownCap w s.length 0 el := by simp only [grownCap, Question.cut]; omega
    have e4 : Lib.bytesCells w el ⟨s.toArray⟩ = (encL s ++ List.replicate (grownCap w s.length 0 el - s.length) (Value.int .u8 0)).toArray := by
      rw [encL_u8]; simp [Lib.bytesCells, strV_size]; intro x _; rfl
    have e5 : Lib.bytesWorld w el ⟨s.toArray⟩ = w.drew.alloc (.cells (Lib.bytesCells w el ⟨s.toArray⟩) el ((Lib.bytesCells w el ⟨s.toArray⟩).size, (Lib.bytesCells w el ⟨s.toArray⟩).size + 1)) := by
      unfold Lib.bytesWorld World.freeze World.alloc World.drew
      rw [if_neg (by omega)]
      congr 1
      apply Array.ext_getElem?
      intro i
      simp only [Array.getElem?_modify, Array.getElem?_push]
      by_cases hi : i = w.heap.size
      · subst hi; simp
      · simp [hi, Ne.symm hi]
    have hA : Rw (.slice (some ⟨w.drew.heap.size, 0, none⟩) s.length (grownCap w s.length 0 el)) s (Hp.one w.drew.heap.size (.cells (Lib.bytesCells w el ⟨s.toArray⟩) el ((Lib.bytesCells w el ⟨s.toArray⟩).size, (Lib.bytesCells w el ⟨s.toArray⟩).size + 1))) :=
      Rw.mk1 _ e4 (by rw [e4]; simp [length_encL, Enc.k]; omega) hcap (fun j hj _ => hj)
    refine ⟨_, _, ?_, S, _, st.drew.alloc _ hA, h _⟩
    simp only [execOp, f.eval hx, strV, Sem.run_bind, e3, Result.andThen_ok, strV_size, e5]; rfl

end
end Go.Ch
end
section
/- Proofs and steps as data. -/
set_option linter.unusedVariables false
set_option linter.unusedSimpArgs false
namespace Go.Ch
open Go.RowKit (wrap64)
open Enc (sg)

structure Proof where
  end_ : Int
  leaf : Leaf
  a : Item
  b : Item
  path : List Item
  deriving DecidableEq
structure Step where
  same : List Item
  old : List Leaf
  new : List Leaf
  deriving DecidableEq
instance : Inhabited Proof := ⟨⟨0, default, default, default, []⟩⟩
instance : Inhabited Step := ⟨⟨[], [], []⟩⟩
end Go.Ch
end
section
/- Shared blocks, parts of arrays, copies; callees that turn what the caller owns; function values; nodes behind an interface. -/
set_option linter.unusedVariables false
set_option linter.unusedSimpArgs false
namespace Go.Ch
open Go.RowKit (wrap64)
open Enc (sg)

section
variable {P : Program} {n : Nat} {o : World} {Q : Exit → Act → World → Prop} {E : Env} {S : Hp} {L : List Asn}
variable {C : Env → Hp → List Asn → Prop} {ty t t' : TypeId} {pos : String} {aft : Array Edge} {x y z : Operand} {d : Nat}
variable {α : Type} [Enc α]

/-! ### sharing -/
theorem G.shareB {c : Code} {b : Nat} {segs : List Seg} (k : Nat) (hk : L[k]? = some (Blk b segs)) (h : ∀ S', S.le S' → At S' b 0 (cells segs) → G P n o c Q E S' (L.set k fun _ => True)) : G P n o c Q E S L :=
  fun a w f s => by obtain ⟨S', e1, e2, e3⟩ := Blk.share s hk; exact h S' e1 e3 a w f e2
theorem GX.shareB {e : Exit} {b : Nat} {segs : List Seg} (k : Nat) (hk : L[k]? = some (Blk b segs)) (h : ∀ S', S.le S' → At S' b 0 (cells segs) → GX n o e Q E S' (L.set k fun _ => True)) : GX n o e Q E S L :=
  fun a w f s => by obtain ⟨S', e1, e2, e3⟩ := Blk.share s hk; exact h S' e1 e3 a w f e2
theorem GDr.shareB {ops : Array Oper} {s : Nat} {S0 : Hp} {L0 L1 : List Asn} {fuel : Nat} {listed : Array Bool} {b : Nat} {segs : List Seg} (k : Nat) (hk : L[k]? = some (Blk b segs))
    (h : ∀ S', S.le S' → At S' b 0 (cells segs) → GDr P n o ops Q s S0 L0 L1 fuel listed E S' (L.set k fun _ => True)) : GDr P n o ops Q s S0 L0 L1 fuel listed E S L :=
  fun a w f s j => by obtain ⟨S', e1, e2, e3⟩ := Blk.share s hk; exact h S' e1 e3 a w f e2 j
theorem Sls.ofAt {b off len cap : Nat} {xs : List α} (h : At S b off (encL xs)) (hl : xs.length = len) (hc : xs.length ≤ cap) : Sls S (.slice (some ⟨b, off, none⟩) len cap) xs :=
  ⟨_, cap, by rw [hl], hc, .inr ⟨b, off, rfl, h⟩⟩
theorem At.seg {b o' off i : Nat} {segs : List Seg} {sg : Seg} (h : At S b o' (Ch.cells segs)) (hr : segs[i]? = some sg) (hoff : o' + width (segs.take i) = off) : At S b off sg.cs.toList := by
  have hd : segs.drop i = sg :: segs.drop (i + 1) := by
    obtain ⟨hlt, e⟩ := List.getElem?_eq_some_iff.1 hr
    rw [List.drop_eq_getElem_cons hlt, e]
  rw [cells_take_drop segs i, hd, cells_cons] at h
  have := h.right.left
  rw [length_cells] at this
  rw [← hoff]; exact this
theorem At.lab {b o' off i : Nat} {segs : List Seg} {l : Lab} (h : At S b o' (Ch.cells segs)) (hr : segs[i]? = some (sL l)) (hoff : o' + width (segs.take i) = off) : At S b off (encL l.toList) := by
  have := h.seg hr hoff; rwa [toList_sL] at this
theorem At.take {b off : Nat} {xs : List α} (h : At S b off (encL xs)) (m : Nat) : At S b off (encL (xs.take m)) := by
  rw [← List.take_append_drop m xs, encL_append] at h; exact h.left
/-- An element of a stable array. -/
theorem At.cell {b o' off i j : Nat} {segs : List Seg} {sg : Seg} {v : Value} (h : At S b o' (Ch.cells segs)) (hr : segs[i]? = some sg) (hj : sg.cs.toList[j]? = some v) (hoff : o' + width (segs.take i) + j = off) : At S b off [v] := by
  obtain ⟨arr, ty, fz, e1, e2⟩ := h.seg hr rfl
  refine ⟨arr, ty, fz, e1, fun k u q => ?_⟩
  cases k with
  | zero => simp at q; subst q; rw [← hoff]; exact e2 j _ hj
  | succ k => simp at q

theorem G.nilRow {c : Code} (h : G P n o c Q E S (Rw (.slice none 0 0) ([] : List α) :: L)) : G P n o c Q E S L := fun a w f s =>
  h a w f ⟨s.os, s.tape, s.output, s.stay, Holds.cons (h1 := fun _ => none) (.inl ⟨rfl, rfl⟩) (fun b x q => by simp at q) (Hp.le_refl _) (fun b x q => rfl) s.own⟩

/-! ### parts of an array in memory of one's own -/
theorem Y.sliceArrTo {b off len k : Nat} {kd : IntKind} {hi : Int} (hx : ev E x = some (.pointer (some ⟨b, off, none⟩))) (hy : ev E y = some (.int kd hi)) (ht : ArrT P t len k) (hl : 0 < len) (hh : 0 ≤ hi ∧ hi ≤ (len : Int)) :
    Yld P n o E S L (.slice t x none (some y) none) ty (.slice (some ⟨b, off, none⟩) hi.toNat len) := fun a w f s _ _ _ _ => by
  obtain ⟨el, e1, e2⟩ := ht.e
  have h1 : ¬ len = 0 := by omega
  have h2 := run_sliceBound (P := P) kd hi len .sliceAlen hh.1 hh.2 w
  simp [execOp, f.eval hx, f.eval hy, Instr.sliceAt, run_underlying e1, Instr.sureAddr, Instr.sliceBounds, run_sizeOf_of e2, Addr.add_mid, h1, h2]
theorem Blk.srcPart {k i : Nat} {b off len cap : Nat} {segs : List Seg} {l : List UInt8} (hk : L[k]? = some (Blk b segs)) (sg : Seg) (hr : segs[i]? = some sg) (hoff : width (segs.take i) = off)
    (hs : sg.cs.toList = encL l) (hl : len ≤ l.length) : Src P o S L (.slice (some ⟨b, off, none⟩) len cap) (l.take len) :=
  Blk.src hk sg hr hoff (by simp; omega) (by
    have h1 : ∀ m, (encL l).take m = encL (l.take m) := fun m => by rw [encL_u8, encL_u8, List.map_take]
    rw [hs]
    have : len * Enc.k UInt8 = len := Nat.mul_one _
    rw [this, h1])
/-- Bytes laid over the head of others. -/
def overL (old new : List UInt8) : List UInt8 := new.take old.length ++ old.drop new.length
theorem overL_length (old new : List UInt8) : (overL old new).length = old.length := by simp [overL]; omega
def overV {m : Nat} (old : Vector UInt8 m) (new : List UInt8) : Vector UInt8 m := ⟨(overL old.toList new).toArray, by simp [overL_length]⟩
theorem overV_toList {m : Nat} (old : Vector UInt8 m) (new : List UInt8) : (overV old new).toList = overL old.toList new := by simp [overV, Vector.toList]

theorem run_copy {t el t2 : TypeId} {w w' : World} {g off len cap m : Nat} {xv : Value} {new : Array Value} (e1 : P.underlying t = some (.slice el)) (e2 : (sizeOf el).run P w = .ok 1 w)
    (q1 : (Builtin.lenOf xv).run P w = .ok m w) (q2 : (Builtin.firstCells 1 (Nat.min m len) xv).run P w = .ok new w) (hst : (storeCells ⟨g, off, none⟩ new.toList).run P w = .ok () w') :
    (Builtin.copy_ #[t, t2] ty #[.slice (some ⟨g, off, none⟩) len cap, xv]).run P w = .ok (goInt (Nat.min m len)) w' := by
  simp [Builtin.copy_, run_underlying e1, e2, q1, q2, hst]

theorem OS.copyB {t2 : TypeId} {ys : List UInt8} (k i : Nat) (sg sg' : Seg) (segs' : List Seg) {b off len cap : Nat} {segs : List Seg} {xv : Value} (l : List UInt8) (hd : d < n) (hx : ev E x = some (.slice (some ⟨b, off, none⟩) len cap)) (hy : ev E y = some xv)
    (hsrc : Src P o S L xv ys) (hk : L[k]? = some (Blk b segs)) (hr : segs[i]? = some sg) (hoff : width (segs.take i) = off) (hs : sg.cs.toList = encL l) (hs' : sg'.cs.toList = encL (overL l ys))
    (hseg : segs.set i sg' = segs') (ht : SlcT P t 1) (hlen : len = l.length) (hl : ys.length ≤ len)
    (h : C ((d, .int .i64 (lenI ys)) :: E) S (L.set k (Blk b segs'))) : OS P n o Q ⟨some d, .call ⟨.builtin .copy, #[x, y], #[t, t2]⟩, ty, pos, aft, none⟩ E S L C :=
  OS.gen hd fun a w f st => by
    obtain ⟨h1, ⟨ty', hb⟩, hle, _⟩ := st.get hk
    obtain ⟨el, e1, e2⟩ := ht.e
    obtain ⟨q1, q2⟩ := hsrc w st
    have hsn : sg.cs.toList.length = l.length := by rw [hs, encL_u8]; simp
    have hd' : segs.drop i = sg :: segs.drop (i + 1) := by
      obtain ⟨hlt, e⟩ := List.getElem?_eq_some_iff.1 hr
      rw [List.drop_eq_getElem_cons hlt, e]
    have hb' : hp w b = some (.cells (cells (segs.take i) ++ (encL (l.take ys.length) ++ (encL (l.drop ys.length) ++ cells (segs.drop (i + 1))))).toArray ty' (0, 0)) := by
      have e0 : cells segs = cells (segs.take i) ++ (encL (l.take ys.length) ++ (encL (l.drop ys.length) ++ cells (segs.drop (i + 1)))) := by
        rw [cells_take_drop segs i, hd', cells_cons, hs]
        conv => lhs; rw [← List.take_append_drop ys.length l, encL_append]
        simp only [List.append_assoc]
      rw [← e0]; exact hle _ _ hb
    have hl1 : ∀ z : List UInt8, (encL z).length = z.length := fun z => by rw [encL_u8]; simp
    have hst := run_storeCells_blk (P := P) b ty' (0, 0) (encL (l.drop ys.length) ++ cells (segs.drop (i + 1))) (encL ys) (encL (l.take ys.length)) (cells (segs.take i)) off 0 w hb'
      (by rw [hl1, hl1, List.length_take]; omega) (by rw [length_cells]; omega) (fun j _ _ => by simp) (ok_encL ys)
    have hmin : Nat.min ys.length len = ys.length := Nat.min_eq_left hl
    have q2' : (Builtin.firstCells 1 (Nat.min ys.length len) xv).run P w = .ok (encL ys).toArray w := by rw [hmin]; exact q2
    have hrun := run_copy (P := P) (ty := ty) (t2 := t2) (t := t) (g := b) (off := off) (len := len) (cap := cap) (xv := xv) e1 (run_sizeOf_of e2) q1 q2' (by simpa using hst)
    have e3 : cells segs' = cells (segs.take i) ++ (encL ys ++ (encL (l.drop ys.length) ++ cells (segs.drop (i + 1)))) := by
      have hlt : i < segs.length := (List.getElem?_eq_some_iff.1 hr).1
      rw [← hseg, set_split _ _ _ hlt, cells_append, cells_append, cells_cons, cells_nil, hs', overL, encL_append, (List.take_of_length_le (by omega) : ys.take l.length = ys)]
      simp only [List.append_assoc, List.nil_append]
    refine ⟨.int .i64 (lenI ys), _, ?_, S, _, st.setBlk (segs' := segs') (ty' := ty') hk, h⟩
    simp only [execOp, resolve, f.eval hx, f.eval hy, invoke, builtin, Sem.run_bind, Sem.run_pure, Result.andThen_ok, e3]
    have e4 : (#[x, y] : Array Operand).map a.eval = #[.slice (some ⟨b, off, none⟩) len cap, xv] := by simp [f.eval hx, f.eval hy]
    rw [e4, hrun, hmin]; rfl

/-! ### bytealg.Compare -/
structure ExtCmp (P : Program) (f : FuncId) : Prop where
  e : ∃ fn, P.funcs[f]? = some fn ∧ (fn.name == "runtime.NumGoroutine") = false ∧ fn.body.isNone = true ∧ Extern.findNext fn = none ∧ Extern.find fn = some Extern.BytealgCompare.compare
def cmpB (a b : List UInt8) : Int := Extern.BytealgCompare.cmp ⟨a.toArray⟩ ⟨b.toArray⟩
theorem run_loadBytes {w : World} {b : Nat} {arr : Array Value} {ty : TypeId} {fz : Nat × Nat} (hb : hp w b = some (.cells arr ty fz)) : ∀ (s : List UInt8) (off : Nat) (acc : ByteArray), (∀ j v, (encL s)[j]? = some v → arr[off + j]? = some v) →
    (Extern.Bytes.loadBytes ⟨b, off, none⟩ s.length acc).run P w = .ok ⟨acc.data ++ s.toArray⟩ w
  | [], off, acc, _ => by simp [Extern.Bytes.loadBytes]
  | c :: s, off, acc, h => by
    have h0 := h 0 (u8V c) (by simp [encL_u8])
    simp only [Nat.add_zero] at h0
    have ih := run_loadBytes hb s (off + 1) (acc.push c) (fun j v q => by have := h (j + 1) v (by simpa [encL_u8] using q); rw [show off + 1 + j = off + (j + 1) from by omega]; exact this)
    simp only [Extern.Bytes.loadBytes, List.length_cons, Sem.run_bind, run_load_blk hb h0, Result.andThen_ok, u8V]
    have e : (c.toNat : Int).toNat.toUInt8 = c := by simp
    rw [e, Addr.add_mid, ih]
    simp [ByteArray.push]
theorem Sls.run_bytesOf {v : Value} {s : List UInt8} (h : Sls S v s) {w : World} (st : Sat o S L w) : (Extern.Bytes.bytesOf v).run P w = .ok ⟨s.toArray⟩ w := by
  obtain ⟨a, cap, rfl, hc, hx⟩ := h
  rcases hx with rfl | ⟨b, off, rfl, arr, ty, fz, e1, e2⟩
  · cases a <;> simp [Extern.Bytes.bytesOf, Extern.Bytes.loadBytes] <;> rfl
  · have := run_loadBytes (P := P) (st.stay _ _ e1) s off .empty e2
    simp [Extern.Bytes.bytesOf, this]
theorem Y.cmpB {f : FuncId} {a b : List UInt8} {va vb : Value} {ts : Array TypeId} (hx : ev E x = some va) (hy : ev E y = some vb) (ha : Sls S va a) (hb : Sls S vb b) (hf : ExtCmp P f) :
    Yld P n o E S L (.call ⟨.value (.func f), #[x, y], ts⟩) ty (.int .i64 (cmpB a b)) := fun ac w fi s _ _ _ _ => by
  obtain ⟨fn, e1, e2, e3, e4, e5⟩ := hf.e
  have h1 := ha.run_bytesOf (P := P) s
  have h2 := hb.run_bytesOf (P := P) s
  have h3 := run_callFunc_extern e1 e2 e3 e4 e5 #[va, vb] w
  simp only [execOp, resolve, Act.eval, Deferred.ofValue, Sem.run_bind, Sem.run_pure, Result.andThen_ok, invoke]
  have e4 : (#[] ++ (#[x, y] : Array Operand).map ac.eval) ++ #[] = #[va, vb] := by simp [fi.eval hx, fi.eval hy]
  have e5 : Extern.BytealgCompare.compare #[va, vb] = (do pure (goInt (Extern.BytealgCompare.cmp (← Extern.Bytes.bytesOf va) (← Extern.Bytes.bytesOf vb)))) := rfl
  rw [e4, h3, e5]
  simp [h1, h2, goInt, Ch.cmpB]

/-! ### callees that turn what the caller owns -/
theorem Sat.takeOut {w : World} {k : Nat} {A : Asn} (s : Sat o S L w) (hk : L[k]? = some A) : Sat o S (A :: L.set k fun _ => True) w := by
  obtain ⟨h1, a, b, f⟩ := s.own.get hk
  exact ⟨s.os, s.tape, s.output, s.stay, h1, a, b, f (fun _ => True) (fun _ => none) _ trivial (fun c x q => by simp at q) (Hp.le_refl _) (fun c x q => by simp at q)⟩
theorem Sat.putBack {w : World} {k : Nat} {A' : Asn} {M : List Asn} (s : Sat o S (A' :: M) w) (hk : M[k]? = some (fun _ => True)) : Sat o S (M.set k A') w := by
  obtain ⟨h1, a, b, c⟩ := s.own
  obtain ⟨h2, _, b2, f⟩ := c.get hk
  refine ⟨s.os, s.tape, s.output, s.stay, f A' h1 _ a b (Hp.le_trans (Hp.minus_le _ _) (Hp.minus_le _ _)) fun c x q => ?_⟩
  cases r : ((((hp w).minus S).minus h1).minus h2) c with
  | none => rfl
  | some y => have := (Hp.minus_some (Hp.minus_some r).2).1; rw [q] at this; simp at this

/-- The contract of a function that turns A into some A'. -/
def FnP (P : Program) (f : FuncId) (args : List Value) (S : Hp) (A : Asn) (post : Value → Hp → Asn → Prop) : Prop :=
  ∀ (o : World) (L : List Asn) (w : World), Sat o S (A :: L) w → Calls P f args.toArray w fun e w' => ∃ v S' A', e = .returned v ∧ S.le S' ∧ Sat o S' (A' :: L) w' ∧ post v S' A'
theorem OS.callP {f : FuncId} {xs : List Operand} {ts : Array TypeId} {A : Asn} {post : Value → Hp → Asn → Prop} (k : Nat) (args : List Value) (hd : d < n) (hx : evs E xs = some args) (hf : FnB P f) (hk : L[k]? = some A) (hc : FnP P f args S A post)
    (h : ∀ v S' A', S.le S' → post v S' A' → C ((d, v) :: E) S' (L.set k A')) : OS P n o Q ⟨some d, .call ⟨.value (.func f), xs.toArray, ts⟩, ty, pos, aft, none⟩ E S L C :=
  fun K hK a w fi s => by
    unfold Oper.wp
    have e : (execOp a.eval ⟨some d, .call ⟨.value (.func f), xs.toArray, ts⟩, ty, pos, aft, none⟩).run P w = .ok (.enter f args.toArray) w := by
      have e1 : xs.toArray.map a.eval = args.toArray := by rw [← fi.evals hx]; simp
      simp only [execOp, resolve, e1, Act.eval, Deferred.ofValue, Sem.run_bind, Sem.run_pure, Result.andThen_ok, invoke]
      simp only [Array.empty_append, Array.append_empty, run_callFn hf]
    rw [e, Oper.upon_enter]
    refine (hc o (L.set k fun _ => True) w (s.takeOut hk)).mono fun e' w' ⟨v, S', A', e1, e2, e3, e4⟩ => ?_
    subst e1
    have hlt : k < L.length := (List.getElem?_eq_some_iff.1 hk).1
    have e5 := e3.putBack (k := k) (by simp [hlt])
    rw [List.set_set] at e5
    exact hK _ _ _ (h v S' A' e2 e4) _ _ (fi.put hd v) e5
theorem Fn.ofP {f : FuncId} {fn : Func} {c : Code} {args : List Value} {A : Asn} {post : Value → Hp → Asn → Prop} (rs : List ResultVar) (m : Nat) (hf : P.funcs[f]? = some fn) (hb : fn.body = some c) (hm : fn.ntmps = m) (hn : args.length ≤ m) (hr : fn.results = rs.toArray)
    (h : ∀ (o : World) (F : List Asn) (Q : Exit → Act → World → Prop), noPanicQ Q → (∀ a w, Q .ret a w → Q .normal a w) →
      (∀ E S' L vs A' k, S.le S' → Ress P E L rs vs → post (retV vs) S' A' → L.drop k = A' :: F → GX m o .ret Q E S' L) → G P m o c Q (argEnv 0 args) S (A :: F)) : FnP P f args S A post := by
  subst hm
  exact fun o F w s => calls_of_wp hf hb (h o F (bodyPost P fn _) (fun ch a d v w q => by cases d <;> exact q) (fun a w q => q) (fun E S' L vs A' k e1 e2 e3 e4 => GX.ret_fn vs hr e2 fun w' s' => ⟨_, S', A', rfl, e1, s'.drop k e4, e3⟩) _ w (fits_enter args hn) s)

/-- The contract of a function that hands back something new of the caller's own. -/
def FnN (P : Program) (f : FuncId) (args : List Value) (S : Hp) (post : Value → Hp → Asn → Prop) : Prop :=
  ∀ (o : World) (L : List Asn) (w : World), Sat o S L w → Calls P f args.toArray w fun e w' => ∃ v S' A', e = .returned v ∧ S.le S' ∧ Sat o S' (A' :: L) w' ∧ post v S' A'
theorem OS.callN {f : FuncId} {xs : List Operand} {ts : Array TypeId} {post : Value → Hp → Asn → Prop} (args : List Value) (hd : d < n) (hx : evs E xs = some args) (hf : FnB P f) (hc : FnN P f args S post)
    (h : ∀ v S' A', S.le S' → post v S' A' → C ((d, v) :: E) S' (A' :: L)) : OS P n o Q ⟨some d, .call ⟨.value (.func f), xs.toArray, ts⟩, ty, pos, aft, none⟩ E S L C :=
  fun K hK a w fi s => by
    unfold Oper.wp
    have e : (execOp a.eval ⟨some d, .call ⟨.value (.func f), xs.toArray, ts⟩, ty, pos, aft, none⟩).run P w = .ok (.enter f args.toArray) w := by
      have e1 : xs.toArray.map a.eval = args.toArray := by rw [← fi.evals hx]; simp
      simp only [execOp, resolve, e1, Act.eval, Deferred.ofValue, Sem.run_bind, Sem.run_pure, Result.andThen_ok, invoke]
      simp only [Array.empty_append, Array.append_empty, run_callFn hf]
    rw [e, Oper.upon_enter]
    refine (hc o L w s).mono fun e' w' ⟨v, S', A', e1, e2, e3, e4⟩ => ?_
    subst e1
    exact hK _ _ _ (h v S' A' e2 e4) _ _ (fi.put hd v) e3
theorem Fn.ofN {f : FuncId} {fn : Func} {c : Code} {args : List Value} {post : Value → Hp → Asn → Prop} (rs : List ResultVar) (m : Nat) (hf : P.funcs[f]? = some fn) (hb : fn.body = some c) (hm : fn.ntmps = m) (hn : args.length ≤ m) (hr : fn.results = rs.toArray)
    (h : ∀ (o : World) (F : List Asn) (Q : Exit → Act → World → Prop), noPanicQ Q → (∀ a w, Q .ret a w → Q .normal a w) →
      (∀ E S' L vs A' k, S.le S' → Ress P E L rs vs → post (retV vs) S' A' → L.drop k = A' :: F → GX m o .ret Q E S' L) → G P m o c Q (argEnv 0 args) S F) : FnN P f args S post := by
  subst hm
  exact fun o F w s => calls_of_wp hf hb (h o F (bodyPost P fn _) (fun ch a d v w q => by cases d <;> exact q) (fun a w q => q) (fun E S' L vs A' k e1 e2 e3 e4 => GX.ret_fn vs hr e2 fun w' s' => ⟨_, S', A', rfl, e1, s'.drop k e4, e3⟩) _ w (fits_enter args hn) s)
/-- A slice against nil. -/
theorem Y.eqNil {a : Option Addr} {len cap k : Nat} (hx : ev E x = some (.slice a len cap)) (hy : ev E y = some (.slice none 0 0)) (ht : SlcT P t k) : Yld P n o E S L (.binOp .eql t x y t') ty (.bool a.isNone) := fun ac w f s _ _ _ _ => by
  obtain ⟨el, e1, _⟩ := ht.e
  have e0 : ∀ d, (Op.equalIn (d + 1) t (.slice a len cap) (.slice none 0 0)).run P w = .ok a.isNone w := fun d => by
    cases a <;> simp [Op.equalIn, run_underlying e1]
  have e2 := e0 9999
  simp only [execOp, f.eval hx, f.eval hy]
  rw [Sem.run_bind]
  have e3 : (eqGuard .eql t x y (.slice a len cap) (.slice none 0 0)).run P w = .ok () w := by simp [eqGuard]
  rw [Sem.run_bind, e3, Result.andThen_ok]
  have e4 : (binOp .eql t (.slice a len cap) (.slice none 0 0)).run P w = .ok (.bool a.isNone) w := by
    show (do pure (.bool (← Op.equal t (.slice a len cap) (.slice none 0 0))) : Sem Value).run P w = _
    rw [Sem.run_bind]
    show ((Op.equalIn (9999 + 1) t (.slice a len cap) (.slice none 0 0)).run P w).andThen _ = _
    rw [e2]; rfl
  rw [e4]; rfl

/-! ### function values -/
def fnV (f : FuncId) (caps : List Value) : Value := .func (.func f) #[] caps.toArray
theorem Y.makeFunc {f : FuncId} {xs : List Operand} {caps : List Value} (hx : evs E xs = some caps) : Yld P n o E S L (.makeFunc (.func f) #[] xs.toArray) ty (fnV f caps) := fun a w fi s _ _ _ _ => by
  have e1 : xs.toArray.map a.eval = caps.toArray := by rw [← fi.evals hx]; simp
  simp [execOp, Instr.makeFunc, e1, fnV]
theorem OS.callV {f : FuncId} {xs : List Operand} {ts : Array TypeId} {post : Value → Hp → Prop} {caps : List Value} (args : List Value) (hd : d < n) (hv : ev E x = some (fnV f caps)) (hx : evs E xs = some args) (hf : FnB P f) (hc : Fn P f (args ++ caps) S post)
    (h : ∀ v S', S.le S' → post v S' → C ((d, v) :: E) S' L) : OS P n o Q ⟨some d, .call ⟨.value x, xs.toArray, ts⟩, ty, pos, aft, none⟩ E S L C :=
  fun K hK a w fi s => by
    unfold Oper.wp
    have e : (execOp a.eval ⟨some d, .call ⟨.value x, xs.toArray, ts⟩, ty, pos, aft, none⟩).run P w = .ok (.enter f (args ++ caps).toArray) w := by
      have e1 : xs.toArray.map a.eval = args.toArray := by rw [← fi.evals hx]; simp
      simp only [execOp, resolve, e1, fi.eval hv, fnV, Deferred.ofValue, Sem.run_bind, Sem.run_pure, Result.andThen_ok, invoke]
      have e2 : #[] ++ args.toArray ++ caps.toArray = (args ++ caps).toArray := by simp
      rw [e2, run_callFn hf]
    rw [e, Oper.upon_enter]
    exact (hc o L w s).mono fun e' w' ⟨v, S', e1, e2, e3, e4⟩ => by subst e1; exact hK _ _ _ (h v S' e2 e4) _ _ (fi.put hd v) e3

/-! ### nodes behind an interface -/
inductive Nd where
  | leaf (x : Leaf)
  | inner (x : Inner)
  | nil
  deriving DecidableEq
def Inner.sg (x : Inner) : List Seg := x.l.sg ++ x.r.sg
structure NdT (P : Program) (t tl ti : TypeId) : Prop where
  e : (∃ ms, P.underlying t = some (.interface ms)) ∧ tl ≠ ti ∧ (∃ fs, P.underlying tl = some (.struct fs)) ∧ ∃ fs, P.underlying ti = some (.struct fs)
def ndV : Nd → Value
  | .leaf x => .iface 25 (aggV x.sg)
  | .inner x => .iface 31 (aggV x.sg)
  | .nil => .nilIface
instance : Inhabited Nd := ⟨.nil⟩
instance : Enc Nd where
  sg x := [sV (ndV x)]
  k := 1
  pos := by omega
  hk x := rfl
  ok x := ok_cells (by simp only [List.mem_cons, List.not_mem_nil, or_false]; rintro s rfl; exact ok_sV (by cases x <;> rfl))
structure StructT (P : Program) (t : TypeId) : Prop where
  e : ∃ fs, P.underlying t = some (.struct fs)
theorem Y.mkI {v : Value} (hx : ev E x = some v) (ht : StructT P t) : Yld P n o E S L (.makeInterface t x) ty (.iface t v) := fun a w f s _ _ _ _ => by
  obtain ⟨fs, e⟩ := ht.e
  simp [execOp, f.eval hx, Instr.makeInterface, run_underlying e]
theorem Y.taYes {v : Value} (hx : ev E x = some (.iface t' v)) (ht : StructT P t') : Yld P n o E S L (.typeAssert x t t' true) ty (.tuple #[v, .bool true]) := fun a w f s _ _ _ _ => by
  obtain ⟨fs, e⟩ := ht.e
  simp [execOp, f.eval hx, Instr.typeAssert, run_underlying e]
theorem Y.taNo {t2 : TypeId} {v : Value} {segs : List Seg} (hx : ev E x = some (.iface t2 v)) (ht : StructT P t') (hz : ZeroT P t' segs) (hne : (t2 == t') = false) (z : Value) (hzz : (P.info? t').bind (·.zero) = some z) : Yld P n o E S L (.typeAssert x t t' true) ty (.tuple #[z, .bool false]) := fun a w f s _ _ _ _ => by
  obtain ⟨fs, e⟩ := ht.e
  have : ¬ t2 = t' := by simpa using hne
  obtain ⟨i, hi, hz'⟩ := Option.bind_eq_some_iff.1 hzz
  simp [execOp, f.eval hx, Instr.typeAssert, run_underlying e, this, zeroValue, typeInfo, hi, hz']
theorem Y.taNil {segs : List Seg} (hx : ev E x = some .nilIface) (ht : StructT P t') (z : Value) (hzz : (P.info? t').bind (·.zero) = some z) : Yld P n o E S L (.typeAssert x t t' true) ty (.tuple #[z, .bool false]) := fun a w f s _ _ _ _ => by
  obtain ⟨fs, e⟩ := ht.e
  obtain ⟨i, hi, hz'⟩ := Option.bind_eq_some_iff.1 hzz
  simp [execOp, f.eval hx, Instr.typeAssert, run_underlying e, zeroValue, typeInfo, hi, hz']
/-- A method of a struct type, called through an interface. -/
structure MethT (P : Program) (t : TypeId) (name : String) (f : FuncId) : Prop where
  e : ∀ v w, (Go.method (P.types.size + Made.depth) t v name).run P w = .ok (f, v) w
theorem OS.invoke {f : FuncId} {name : String} {ts : Array TypeId} {post : Value → Hp → Prop} {v : Value} (hd : d < n) (hx : ev E x = some (.iface t v)) (hm : MethT P t name f) (hf : FnB P f) (hc : Fn P f [v] S post)
    (h : ∀ v S', S.le S' → post v S' → C ((d, v) :: E) S' L) : OS P n o Q ⟨some d, .call ⟨.invoke x name, #[], ts⟩, ty, pos, aft, none⟩ E S L C :=
  fun K hK a w fi s => by
    unfold Oper.wp
    have e : (execOp a.eval ⟨some d, .call ⟨.invoke x name, #[], ts⟩, ty, pos, aft, none⟩).run P w = .ok (.enter f [v].toArray) w := by
      simp [execOp, resolve, fi.eval hx, Go.invoke, callMethod, hm.e, run_callFn hf]
    rw [e, Oper.upon_enter]
    exact (hc o L w s).mono fun e' w' ⟨v, S', e1, e2, e3, e4⟩ => by subst e1; exact hK _ _ _ (h v S' e2 e4) _ _ (fi.put hd v) e3
theorem Nd.split (n : Nd) : (∃ x, n = .leaf x) ∨ (∃ x, n = .inner x) ∨ n = .nil := by cases n <;> simp

end
end Go.Ch
end
section
/- Short forms of the rules, for printed texts. -/
set_option linter.unusedVariables false
set_option linter.unusedSimpArgs false
namespace Go.Ch
open Go.RowKit (wrap64)

section
variable {P : Program} {n : Nat} {o : World} {Q : Exit → Act → World → Prop} {E : Env} {S : Hp} {L : List Asn}
variable {C : Env → Hp → List Asn → Prop} {ty t t' : TypeId} {pos : String} {aft : Array Edge} {x y z : Operand} {d : Nat}
variable {ops : Array Oper} {s : Nat} {S0 : Hp} {L0 L1 : List Asn} {fuel : Nat} {listed : Array Bool} {rest : List Oper}
variable {g : Option (Nat × Bool)} {op : Op} {v : Value} {dst : Option Tmp}

theorem vl (hy : Yld P n o E S L op ty v) (h : GO P n o ops rest Q ((d, v) :: E) S L) (hd : d < n := by decide) : GO P n o ops (⟨some d, op, ty, pos, aft, none⟩ :: rest) Q E S L := GO.val v hd hy h
theorem mv (h : GO P n o ops rest Q ((d, v) :: E) S L) (hx : ev E x = some v := by exact rfl) (hd : d < n := by decide) : GO P n o ops (⟨some d, .move x, ty, pos, aft, none⟩ :: rest) Q E S L := GO.val v hd (Y.move hx) h
theorem an (h : GO P n o ops rest Q ((d, v) :: E) S L) (hx : ev E x = some v := by exact rfl) (hd : d < n := by decide) : GO P n o ops (⟨some d, .assign x, ty, pos, aft, none⟩ :: rest) Q E S L := GO.val v hd (Y.assign hx) h
theorem st (h : OS P n o Q ⟨dst, op, ty, pos, aft, none⟩ E S L (GO P n o ops rest Q)) : GO P n o ops (⟨dst, op, ty, pos, aft, none⟩ :: rest) Q E S L := GO.step h
theorem sr {id : Nat} {l : List Oper} {y : Code} (h : ∀ K : Act → World → Prop, (∀ a w, y.wp P Q a w → K a w) → GO P n o l.toArray l (Exit.then K Q) E S L) : G P n o (.seq (.region id l.toArray false) y) Q E S L := G.seq fun K hK => G.region (h K hK)
theorem nt {K : Act → World → Prop} {y : Code} (hK : ∀ a w, y.wp P Q a w → K a w) (h : G P n o y Q E S L) : GO P n o ops [] (Exit.then K Q) E S L := GO.nil (GX.then hK h)
theorem sk {K : Act → World → Prop} {y : Code} (hK : ∀ a w, y.wp P Q a w → K a w) (h : G P n o y Q E S L) : G P n o .skip (Exit.then K Q) E S L := G.skip (GX.then hK h)
def dchk (ops : Array Oper) (listed : Array Bool) (i s : Nat) : Bool := Region.noSelect ops && Region.free .any ops listed i && (Region.ready .any ops listed).contains i && !(i == s)
theorem dchk_spec {i : Nat} (h : dchk ops listed i s = true) : Region.noSelect ops = true ∧ Region.free .any ops listed i = true ∧ (Region.ready .any ops listed).contains i = true ∧ (i == s) = false := by
  simp only [dchk, Bool.and_eq_true, Bool.not_eq_true'] at h; exact ⟨h.1.1.1, h.1.1.2, h.1.2, h.2⟩
theorem tw (i : Nat) (hi : ops[i]? = some ⟨some d, op, ty, pos, aft, g⟩) (hw : Weak L0 L1) (hQ : noPanicQ Q) (hg : Gd n ops E g true) (hy : ∀ S' X, S0.le S' → Yld P n o E S' (X ++ L1) op ty v)
    (h : GDr P n o ops Q s S0 L0 L1 fuel (listed.setIfInBounds i true) ((d, v) :: E) S L) (hc : dchk ops listed i s = true := by kernel_rfl) (hd : d < n := by decide) : GDr P n o ops Q s S0 L0 L1 (fuel + 1) listed E S L :=
  have c := dchk_spec hc
  GDr.takeW i v hi c.1 c.2.1 c.2.2.1 c.2.2.2 hw hQ hd hg hy h
theorem tn (i : Nat) (hi : ops[i]? = some ⟨some d, op, ty, pos, aft, none⟩) (hQ : noPanicQ Q) (hy : ∀ S' X, S0.le S' → Yld P n o E S' (X ++ L0) op ty v)
    (h : GDr P n o ops Q s S0 L0 L0 fuel (listed.setIfInBounds i true) ((d, v) :: E) S L) (hc : dchk ops listed i s = true := by kernel_rfl) (hd : d < n := by decide) : GDr P n o ops Q s S0 L0 L0 (fuel + 1) listed E S L := tw i hi .refl hQ .none hy h hc hd
theorem tk (i : Nat) (D : List Nat) (hi : ops[i]? = some ⟨some d, op, ty, pos, aft, g⟩) (hQ : noPanicQ Q) (hg : Gd n ops E g true) (hy : ∀ S' X, S0.le S' → Yld P n o E S' (X ++ L0) op ty v)
    (h : GDr P n o ops Q s S0 L0 L1 fuel (listed.setIfInBounds i true) ((d, v) :: E) S L) (hc : (dchk ops listed i s && waits ops listed i D && D.contains s) = true := by kernel_rfl) (hd : d < n := by decide) : GDr P n o ops Q s S0 L0 L1 (fuel + 1) listed E S L := by
  simp only [Bool.and_eq_true] at hc
  have c := dchk_spec hc.1.1
  exact GDr.take i D v hi c.1 c.2.1 c.2.2.1 hc.1.2 hc.2 c.2.2.2 hQ hd hg hy h
theorem tf (i : Nat) (hi : ops[i]? = some ⟨some d, op, ty, pos, aft, g⟩) (hw : Weak L0 L1) (hQ : noPanicQ Q) (hg : Gd n ops E g false)
    (h : GDr P n o ops Q s S0 L0 L1 fuel (listed.setIfInBounds i true) ((d, undef) :: E) S L) (hc : dchk ops listed i s = true := by kernel_rfl) (hd : d < n := by decide) : GDr P n o ops Q s S0 L0 L1 (fuel + 1) listed E S L :=
  have c := dchk_spec hc
  GDr.off i hi c.1 c.2.1 c.2.2.1 c.2.2.2 hw hQ hd hg h
theorem dn (h : GX n o .normal Q E S L) (hr : Region.ready .any ops listed = [] := by kernel_rfl) : GDr P n o ops Q s S0 L0 L1 fuel listed E S L := GDr.done hr h
theorem gi {j : Nat} {want b : Bool} (t : Nat) (he : b = want) (hs : slotOf ops j = some t := by exact rfl) (ht : t < n := by decide) (hb : E.lookup t = some (.bool b) := by exact rfl) : Gd n ops E (some (j, want)) true := Gd.is t hs ht hb he
theorem gn {j : Nat} {want b b0 : Bool} (t : Nat) (he : b = b0) (hs : slotOf ops j = some t := by exact rfl) (ht : t < n := by decide) (hb : E.lookup t = some (.bool b) := by exact rfl) (hne : b0 ≠ want := by decide) : Gd n ops E (some (j, want)) false := Gd.isnt t hs ht hb (by rw [he]; exact hne)
theorem cl {f : FuncId} {xs : List Operand} {ts : Array TypeId} {post : Value → Hp → Prop} {args : List Value} (hf : FnB P f) (hc : Fn P f args S post)
    (h : ∀ v S', S.le S' → post v S' → C ((d, v) :: E) S' L) (hx : evs E xs = some args := by exact rfl) (hd : d < n := by decide) : OS P n o Q ⟨some d, .call ⟨.value (.func f), xs.toArray, ts⟩, ty, pos, aft, none⟩ E S L C := OS.call args hd hx hf hc h

theorem so (k i m : Nat) (segs' : List Seg) {b off w' : Nat} {segs r : List Seg} {v : Value} (hv : v.cells.toList = cells r) (hok : okCells (cells r)) (hs : (P.info? t).map (·.size) = some w')
    (h : GO P n o ops rest Q E S (L.set k (Blk b segs'))) (hx : ev E x = some (.pointer (some ⟨b, off, none⟩)) := by exact rfl) (hy : ev E y = some v := by exact rfl)
    (hk : L[k]? = some (Blk b segs) := by exact rfl) (hoff : width (segs.take i) = off := by exact rfl) (hw : width r = w' := by kernel_rfl) (hm : width ((segs.drop i).take m) = w' := by kernel_rfl)
    (hseg : segs.take i ++ (r ++ (segs.drop i).drop m) = segs' := by kernel_rfl) : GO P n o ops (⟨none, .store t x y, ty, pos, aft, none⟩ :: rest) Q E S L :=
  GO.step (OS.store k i m segs' (r := r) hx hy hv hok hk hoff hs hw hm hseg h)
theorem lb (k i m : Nat) (r : List Seg) {b off w' : Nat} {segs : List Seg} (hT : RowT P t w') (h : GO P n o ops rest Q ((d, aggV r) :: E) S L) (hx : ev E x = some (.pointer (some ⟨b, off, none⟩)) := by exact rfl)
    (hk : L[k]? = some (Blk b segs) := by exact rfl) (hoff : width (segs.take i) = off := by exact rfl) (hr : (segs.drop i).take m = r := by exact rfl) (hw : width r = w' := by kernel_rfl) (hd : d < n := by decide) :
    GO P n o ops (⟨some d, .load t x, ty, pos, aft, none⟩ :: rest) Q E S L := GO.val _ hd (Y.loadB k i m r hx hk hoff hr hT hw) h
theorem sf (k m : Nat) (segs' : List Seg) {b off w' : Nat} {segs : List Seg} {v : Value} (hv : v.cells.toList = cells segs') (hok : okCells (cells segs')) (hs : (P.info? t).map (·.size) = some w')
    (h : GO P n o ops rest Q E S (L.set k (Blk b segs'))) (hx : ev E x = some (.pointer (some ⟨b, off, none⟩)) := by exact rfl) (hy : ev E y = some v := by exact rfl)
    (hk : L[k]? = some (Blk b segs) := by exact rfl) (hoff : width (segs.take 0) = off := by exact rfl) (hw : width segs' = w' := by kernel_rfl) (hm : width ((segs.drop 0).take m) = w' := by kernel_rfl)
    (hseg : segs.take 0 ++ (segs' ++ (segs.drop 0).drop m) = segs' := by kernel_rfl) : GO P n o ops (⟨none, .store t x y, ty, pos, aft, none⟩ :: rest) Q E S L :=
  GO.step (OS.store k 0 m segs' (r := segs') hx hy hv hok hk hoff hs hw hm hseg h)
theorem lv (k i : Nat) {v : Value} {b off : Nat} {segs : List Seg} (hT : OneT P t) (h : GO P n o ops rest Q ((d, v) :: E) S L) (hx : ev E x = some (.pointer (some ⟨b, off, none⟩)) := by exact rfl)
    (hk : L[k]? = some (Blk b segs) := by exact rfl) (hoff : width (segs.take i) = off := by exact rfl) (hr : segs[i]? = some (sV v) := by exact rfl) (hd : d < n := by decide) :
    GO P n o ops (⟨some d, .load t x, ty, pos, aft, none⟩ :: rest) Q E S L := GO.val _ hd (Y.loadV k i v hx hk hoff hr hT) h
theorem bs {α : Type} [Enc α] {parts : List (Nat × Operand)} {len : Nat} (xs : List α) {vs : List Value} (ht : ElT P t α) (h : ∀ v, GO P n o ops rest Q ((d, v) :: E) S (Rw v xs :: L)) (hlen : len = xs.length := by exact rfl)
    (hl : xs.length * Enc.k α ≤ 16777216 := by exact Nat.le_of_ble_eq_true rfl) (hi : parts.map Prod.fst = List.range len := by exact rfl) (hv : evs E (parts.map Prod.snd) = some vs ∧ vs.map (fun v => v.cells.toList) = xs.map fun x => Ch.cells (Enc.sg x) := by exact ⟨rfl, rfl⟩) (hd : d < n := by decide) :
    GO P n o ops (⟨some d, .buildSlice t len parts.toArray, ty, pos, aft, none⟩ :: rest) Q E S L := GO.step (OS.buildSliceE xs hd ht hlen hl hi hv h)
theorem p2 {e : Exit} {p : Nat × Value} {t : Nat} {v : Value} (h : GX n o e Q (p :: E) S L) (ht : E.lookup t = none := by exact rfl) : GX n o e Q (p :: (t, v) :: E) S L := GX.pop2 ht h
theorem g1 (i : Nat) (h : GD1 P n o ops Q s S0 L0 L1 fuel listed E S L i) (hr : Region.ready .any ops listed = [i] := by kernel_rfl) : GDr P n o ops Q s S0 L0 L1 (fuel + 1) listed E S L := GDr.any [i] hr rfl h
theorem n1 {i : Nat} (hi : ops[i]? = some ⟨dst, op, ty, pos, aft, none⟩)
    (h : OS P n o Q ⟨dst, op, ty, pos, aft, none⟩ E S L fun E' S' L' => (∃ X, Weak L' (X ++ L0) ∧ S0.le S') ∧ GDr P n o ops Q s S0 L0 L1 fuel (listed.setIfInBounds i true) E' S' L') (hs : (listed.setIfInBounds i true).getD s false = false := by kernel_rfl) : GD1 P n o ops Q s S0 L0 L1 fuel listed E S L i :=
  GD1.on hi Gd.none hs h
theorem n2 {i : Nat} (hi : ops[i]? = some ⟨dst, op, ty, pos, aft, none⟩)
    (h : OS P n o Q ⟨dst, op, ty, pos, aft, none⟩ E S L fun E' S' L' => (∃ X, Weak L' (X ++ L1) ∧ S0.le S') ∧ GDr P n o ops Q s S0 L0 L1 fuel (listed.setIfInBounds i true) E' S' L') (hs : (listed.setIfInBounds i true).getD s false = true := by kernel_rfl) : GD1 P n o ops Q s S0 L0 L1 fuel listed E S L i :=
  GD1.on1 hi Gd.none hs h
theorem tx (i : Nat) (hi : ops[i]? = some ⟨some d, op, ty, pos, aft, none⟩) (hw : Weak L0 L1) (hQ : noPanicQ Q) (hy : ∀ S' X, S0.le S' → Yld P n o E S' (X ++ L1) op ty v)
    (h : GDr P n o ops Q s S0 L0 L1 fuel (listed.setIfInBounds i true) ((d, v) :: E) S L) (hc : dchk ops listed i s = true := by kernel_rfl) (hd : d < n := by decide) : GDr P n o ops Q s S0 L0 L1 (fuel + 1) listed E S L := tw i hi hw hQ .none hy h hc hd
theorem gv {j : Nat} {want b : Bool} (t : Nat) (he : b = want) (hy : Yld P n o E S L op ty v) (h : GO P n o ops rest Q ((d, v) :: E) S L) (hs : slotOf ops j = some t := by exact rfl) (ht : t < n := by decide) (hb : E.lookup t = some (.bool b) := by exact rfl) (hd : d < n := by decide) :
    GO P n o ops (⟨some d, op, ty, pos, aft, some (j, want)⟩ :: rest) Q E S L := GO.onV t hs ht hb he hd hy h
theorem gf {j : Nat} {want b b0 : Bool} (t : Nat) (he : b = b0) (h : GO P n o ops rest Q ((d, undef) :: E) S L) (hs : slotOf ops j = some t := by exact rfl) (ht : t < n := by decide) (hb : E.lookup t = some (.bool b) := by exact rfl) (hne : b0 ≠ want := by decide) (hd : d < n := by decide) :
    GO P n o ops (⟨some d, op, ty, pos, aft, some (j, want)⟩ :: rest) Q E S L := GO.off t hs ht hb (by rw [he]; exact hne) hd h
end
theorem fo {P : Program} {S : Hp} {f : FuncId} {fn : Func} {c : Code} {args : List Value} {post : Value → Hp → Prop} (rs : List ResultVar) (m : Nat) (hf : P.funcs[f]? = some fn) (hm : fn.ntmps = m)
    (h : ∀ (o : World) (F : List Asn) (Q : Exit → Act → World → Prop), noPanicQ Q → (∀ a w, Q .ret a w → Q .normal a w) →
      (∀ E S' L vs k, S.le S' → Ress P E L rs vs → post (retV vs) S' → L.drop k = F → GX m o .ret Q E S' L) → G P m o c Q (argEnv 0 args) S F) (hb : fn.body = some c := by exact rfl) (hn : args.length ≤ m := by exact Nat.le_of_ble_eq_true rfl) (hr : fn.results = rs.toArray := by exact rfl) : Fn P f args S post :=
  Fn.of' rs m hf hb hm hn hr h
theorem oI {v : Value} {L : List Seg} (k : okCells (cells L)) (h : v.oneCell' = true := by exact rfl) : okCells (cells (sV v :: L)) := okS_cons (ok_sV h) k
theorem oL {l : Lab} {L : List Seg} (k : okCells (cells L)) : okCells (cells (sL l :: L)) := okS_cons (ok_sL _) k
theorem oV {v : Value} {L : List Seg} (h : v.oneCell' = true) (k : okCells (cells L)) : okCells (cells (sV v :: L)) := okS_cons (ok_sV h) k
theorem oN : okCells (cells []) := okS_nil
theorem l2 {S T U : Hp} (h : S.le T) (k : T.le U) : S.le U := Hp.le_trans h k
theorem l0 {S : Hp} : S.le S := Hp.le_refl S
end Go.Ch
end
section
/- Arguments, opened: what a reading says of a label, a struct of labels and numbers, a slice of them. -/
set_option linter.unusedVariables false
set_option linter.unusedSimpArgs false
namespace Go.Ch
open Enc (sg)

theorem mapM_spec {α β : Type} {f : α → Option β} : ∀ {l : List α} {ys : List β}, l.mapM f = some ys → ys.length = l.length ∧ ∀ (i : Nat) (x : α), l[i]? = some x → ∃ y, ys[i]? = some y ∧ f x = some y
  | [], ys, h => by simp at h; subst h; simp
  | a :: l, ys, h => by
    rw [List.mapM_cons] at h
    cases ha : f a with
    | none => simp [ha] at h
    | some b =>
      cases hl : l.mapM f with
      | none => simp [ha, hl] at h
      | some bs =>
        simp [ha, hl] at h; subst h
        obtain ⟨e1, e2⟩ := mapM_spec hl
        refine ⟨by simp [e1], fun i x hi => ?_⟩
        cases i with
        | zero => simp at hi; subst hi; exact ⟨b, by simp, ha⟩
        | succ i => simp at hi; obtain ⟨y, e3, e4⟩ := e2 i x hi; exact ⟨y, by simpa using e3, e4⟩

theorem add_block (a : Addr) (m : Nat) : (a.add m).block = a.block := by unfold Addr.add; split <;> rfl
theorem add_off (a : Addr) (m : Nat) : (a.add m).off = a.off + m := by unfold Addr.add; split <;> simp_all
theorem cells?_at {w : World} {a : Addr} {n : Nat} {cs : List Value} (h : w.cells? 0 a n = some cs) (hn : 0 < n) : a.spot = none ∧ cs.length = n ∧ At (hp w) a.block a.off cs := by
  unfold World.cells? at h
  rw [if_pos (Nat.zero_le _)] at h
  obtain ⟨e1, e2⟩ := mapM_spec h
  have hc : ∀ i, i < n → ∃ v, cs[i]? = some v ∧ w.cell? (a.add i) = some v := fun i hi => e2 i i (by simp [hi])
  obtain ⟨v0, _, h0⟩ := hc 0 hn
  simp only [World.cell?, add_block, add_off] at h0 hc
  cases hb : w.heap[a.block]? with
  | none => simp [hb] at h0
  | some o =>
    cases o with
    | cells c ty fz =>
      simp only [hb] at h0 hc
      have hs : a.spot = none := by
        cases hq : a.spot with
        | none => rfl
        | some s => simp [Addr.add, hq] at h0
      refine ⟨hs, by simpa using e1, c, ty, fz, hb, fun j v hj => ?_⟩
      have hlt : j < n := by have := (List.getElem?_eq_some_iff.1 hj).1; simp at e1; omega
      obtain ⟨v', h1, h2⟩ := hc j hlt
      rw [hj] at h1; cases h1
      split at h2
      · simp at h2
      · exact h2
    | _ => simp [hb] at h0

section
variable {H : Type} {enc : TypeId × Value → H} {P : Program} {w : World} {spare : Nat → Bool} {held : Bool} {t e : TypeId}
variable {α : Type} [Enc α]

/-- Of every reading of that type: the cells are a datum's. -/
def Opn (H : Type) (enc : TypeId × Value → H) (P : Program) (w : World) (spare : Nat → Bool) (held : Bool) (t : TypeId) (α : Type) [Enc α] (ok : α → Prop) : Prop :=
  P.cellsOf t = Enc.k α ∧ ∀ fuel cs d ps, DataW.trod enc P w 0 spare held fuel t cs = some (d, ps) → ∃ x : α, cs = cells (sg x) ∧ ok x

def PartAt (arr : Array Value) (off : Nat) (cs : List Value) : Prop := ∀ j v, cs[j]? = some v → arr[off + j]? = some v
theorem PartAt.encL {arr : Array Value} : ∀ (xs : List α) (off : Nat), (∀ i x, xs[i]? = some x → PartAt arr (off + i * Enc.k α) (cells (sg x))) → PartAt arr off (encL xs)
  | [], off, h => fun j v q => by simp [Ch.encL] at q
  | x :: xs, off, h => fun j v q => by
    rw [encL_cons] at q
    have hk : (cells (sg x)).length = Enc.k α := by rw [length_cells, Enc.hk]
    rcases Nat.lt_or_ge j (Enc.k α) with hj | hj
    · rw [List.getElem?_append_left (by omega)] at q
      have := h 0 x (by simp) j v q; simpa using this
    · rw [List.getElem?_append_right (by omega)] at q
      have := PartAt.encL xs (off + Enc.k α) (fun i y hi => by
        have := h (i + 1) y (by simpa using hi)
        rw [Nat.add_mul, Nat.one_mul] at this
        rw [show off + Enc.k α + i * Enc.k α = off + (i * Enc.k α + Enc.k α) from by omega]; exact this) _ v q
      rw [hk] at this
      rw [show off + j = off + Enc.k α + (j - Enc.k α) from by omega]; exact this

/-- A slice. -/
theorem trod_slc {ok : α → Prop} (ht : P.underlying t = some (.slice e)) (ho : Opn H enc P w spare held e α ok) {fuel : Nat} {cs : List Value} {x : DataW H × List MemPlace} (h : DataW.trod enc P w 0 spare held fuel t cs = some x) :
    ∃ (v : Value) (xs : List α), cs = cells [sV v] ∧ Sls (hp w) v xs ∧ xs.length ≤ maxLen ∧ ∀ x ∈ xs, ok x := by
  cases fuel with
  | zero => simp [DataW.trod] at h
  | succ fuel =>
    have hvv : ∃ a len cap, cs = [.slice a len cap] := by
      simp only [DataW.trod, ht] at h
      cases cs with
      | nil => simp at h
      | cons v cs =>
        cases cs with
        | cons _ _ => cases v <;> simp at h
        | nil => cases v <;> simp at h; exact ⟨_, _, _, rfl⟩
    obtain ⟨a, len, cap, rfl⟩ := hvv
    refine ⟨.slice a len cap, ?_⟩
    simp only [DataW.trod, ht] at h
    cases a with
    | none =>
      cases len with
      | zero => cases cap with
        | zero => exact ⟨[], rfl, Sls.nil _, by simp, by simp⟩
        | succ c => simp at h
      | succ l => simp at h
    | some a =>
      dsimp only at h
      split at h
      · rename_i hc
        obtain ⟨_, hlc, hcm⟩ := hc
        cases hm : ((List.range len).mapM fun i => (w.cells? 0 (a.add (i * P.cellsOf e)) (P.cellsOf e)).bind (DataW.trod enc P w 0 spare held fuel e)) with
        | none => simp [hm] at h
        | some elems =>
          obtain ⟨e1, e2⟩ := mapM_spec hm
          have hx : ∀ i, i < len → ∃ x : α, ok x ∧ (a.add (i * Enc.k α)).spot = none ∧ At (hp w) a.block (a.off + i * Enc.k α) (cells (sg x)) := fun i hi => by
            obtain ⟨y, _, e3⟩ := e2 i i (by simp [hi])
            obtain ⟨cs, e4, e5⟩ := Option.bind_eq_some_iff.1 e3
            obtain ⟨x, e6, eok⟩ := ho.2 _ _ y.1 y.2 e5
            obtain ⟨e7, e8, e9⟩ := cells?_at e4 (by rw [ho.1]; exact Enc.pos)
            rw [add_block, add_off] at e9
            rw [ho.1] at e7 e9
            exact ⟨x, eok, e7, e6 ▸ e9⟩
          rcases Nat.eq_zero_or_pos len with h0 | h0
          · subst h0; exact ⟨[], rfl, ⟨some a, cap, rfl, hlc, .inl rfl⟩, by simp, by simp⟩
          · obtain ⟨f, hf⟩ : ∃ f : Nat → α, ∀ i, i < len → ok (f i) ∧ (a.add (i * Enc.k α)).spot = none ∧ At (hp w) a.block (a.off + i * Enc.k α) (cells (sg (f i))) :=
              ⟨fun i => if hi : i < len then (hx i hi).choose else default, fun i hi => by simp only [dif_pos hi]; exact (hx i hi).choose_spec⟩
            refine ⟨(List.range len).map f, rfl, ⟨some a, cap, by simp, by simpa using hlc, .inr ⟨a.block, a.off, ?_, ?_⟩⟩, by simp; omega, fun x hx' => by simp at hx'; obtain ⟨i, hi, rfl⟩ := hx'; exact (hf i hi).1⟩
            · obtain ⟨b, off, spot⟩ := a
              have := (hf 0 h0).2.1; simp [Addr.add] at this; subst this; rfl
            · obtain ⟨arr, ty, fz, e3, _⟩ := (hf 0 h0).2.2
              refine ⟨arr, ty, fz, e3, PartAt.encL _ _ fun i x hi => ?_⟩
              have hlt : i < len := by have := (List.getElem?_eq_some_iff.1 hi).1; simpa using this
              obtain ⟨arr', ty', fz', e4, e5⟩ := (hf i hlt).2.2
              rw [e3] at e4; cases e4
              simp [hlt] at hi; subst hi; exact e5
      · simp at h

/-! ### the parts of a value -/
theorem trod_int {k : IntKind} (ht : P.underlying t = some (.int k)) {fuel : Nat} {cs : List Value} {x : DataW H × List MemPlace} (h : DataW.trod enc P w 0 spare held fuel t cs = some x) :
    ∃ n : Int, cs = [.int k n] ∧ k.min ≤ n ∧ n ≤ k.max := by
  cases fuel with
  | zero => simp [DataW.trod] at h
  | succ fuel =>
    simp only [DataW.trod, ht] at h
    cases cs with
    | nil => simp at h
    | cons v cs =>
      cases cs with
      | cons _ _ => cases v <;> simp at h
      | nil =>
        cases v <;> simp at h
        rename_i k' n
        obtain ⟨⟨rfl, hw⟩, _⟩ := h
        simp [Lit.wf] at hw
        exact ⟨n, rfl, hw⟩
theorem trod_struct {fs : Array Field} (ht : P.underlying t = some (.struct fs)) {fuel : Nat} {cs : List Value} {x : DataW H × List MemPlace} (h : DataW.trod enc P w 0 spare held fuel t cs = some x) :
    cs.length = P.cellsOf t ∧ ∃ fuel', ∀ (i : Nat) (f : Field), fs.toList[i]? = some f → ∃ y, DataW.trod enc P w 0 spare held fuel' f.type ((cs.drop f.offset).take (P.cellsOf f.type)) = some y := by
  cases fuel with
  | zero => simp [DataW.trod] at h
  | succ fuel =>
    simp only [DataW.trod, ht] at h
    split at h
    · rename_i hl
      refine ⟨hl, fuel, fun i f hi => ?_⟩
      cases hm : (fs.toList.mapM fun f => DataW.trod enc P w 0 spare held fuel f.type ((cs.drop f.offset).take (P.cellsOf f.type))) with
      | none => simp [hm] at h
      | some ys => obtain ⟨y, _, e⟩ := (mapM_spec hm).2 i f hi; exact ⟨y, e⟩
    · simp at h
theorem trod_array {len : Nat} (ht : P.underlying t = some (.array len e)) {fuel : Nat} {cs : List Value} {x : DataW H × List MemPlace} (h : DataW.trod enc P w 0 spare held fuel t cs = some x) :
    cs.length = P.cellsOf t ∧ ∃ fuel', ∀ i, i < len → ∃ y, DataW.trod enc P w 0 spare held fuel' e ((cs.drop (i * P.cellsOf e)).take (P.cellsOf e)) = some y := by
  cases fuel with
  | zero => simp [DataW.trod] at h
  | succ fuel =>
    simp only [DataW.trod, ht] at h
    split at h
    · rename_i hl
      refine ⟨hl, fuel, fun i hi => ?_⟩
      cases hm : ((List.range len).mapM fun i => DataW.trod enc P w 0 spare held fuel e ((cs.drop (i * P.cellsOf e)).take (P.cellsOf e))) with
      | none => simp [hm] at h
      | some ys => obtain ⟨y, _, e⟩ := (mapM_spec hm).2 i i (by simp [hi]); exact ⟨y, e⟩
    · simp at h
/-- A label's type. -/
structure LabT (P : Program) (t : TypeId) : Prop where
  e : ∃ u, P.underlying t = some (.array 32 u) ∧ P.underlying u = some (.int .u8) ∧ P.cellsOf t = 32 ∧ P.cellsOf u = 1
theorem trod_lab (ht : LabT P t) {fuel : Nat} {cs : List Value} {x : DataW H × List MemPlace} (h : DataW.trod enc P w 0 spare held fuel t cs = some x) : ∃ l : Lab, cs = cells [sL l] := by
  obtain ⟨u, e1, e2, e3, e4⟩ := ht.e
  obtain ⟨hl, fuel', hf⟩ := trod_array e1 h
  rw [e3] at hl
  have hb : ∀ i, i < 32 → ∃ b : UInt8, cs[i]? = some (u8V b) := fun i hi => by
    obtain ⟨y, hy⟩ := hf i hi
    obtain ⟨n, e5, e6, e7⟩ := trod_int e2 hy
    rw [e4, Nat.mul_one] at e5
    have hlt : i < cs.length := by omega
    have e8 : cs[i] = .int .u8 n := by
      have := congrArg (·[0]?) e5
      simp [List.getElem?_take, List.getElem?_drop, List.getElem?_eq_getElem hlt] at this
      exact this
    refine ⟨UInt8.ofNat n.toNat, ?_⟩
    rw [List.getElem?_eq_getElem hlt, e8]
    simp [IntKind.min, IntKind.max, IntKind.signed, IntKind.bits] at e6 e7
    simp [u8V]
    omega
  obtain ⟨f, hf'⟩ : ∃ f : Nat → UInt8, ∀ i, i < 32 → cs[i]? = some (u8V (f i)) :=
    ⟨fun i => if hi : i < 32 then (hb i hi).choose else 0, fun i hi => by simp only [dif_pos hi]; exact (hb i hi).choose_spec⟩
  refine ⟨Vector.ofFn fun i : Fin 32 => f i.1, ?_⟩
  rw [cells_cons, cells_nil, List.append_nil]
  apply List.ext_getElem?
  intro i
  rcases Nat.lt_or_ge i 32 with hi | hi
  · rw [hf' i hi]
    simp [sL, hi]
  · rw [List.getElem?_eq_none (by omega), List.getElem?_eq_none (by simp [sL]; exact hi)]

/-- A struct's cells, from its fields' parts. -/
def piece (cs : List Value) (p : Nat × Nat) : List Value := (cs.drop p.1).take p.2
def contig : Nat → List (Nat × Nat) → Option Nat
  | o, [] => some o
  | o, (a, k) :: r => if a = o then contig (o + k) r else none
theorem pieces {cs : List Value} : ∀ (l : List (Nat × Nat)) (o : Nat), contig o l = some cs.length → cs.drop o = (l.map (piece cs)).flatten
  | [], o, h => by simp [contig] at h; subst h; simp
  | (a, k) :: r, o, h => by
    simp only [contig] at h
    split at h
    · rename_i e; subst e
      rw [List.map_cons, List.flatten_cons, ← pieces r _ h]
      show cs.drop a = (cs.drop a).take k ++ cs.drop (a + k)
      rw [← List.drop_drop, List.take_append_drop]
    · simp at h
structure FlT (P : Program) (t : TypeId) (l : List (TypeId × Nat × Nat)) (n : Nat) : Prop where
  e : ∃ fs, P.underlying t = some (.struct fs) ∧ fs.toList.map (fun f => (f.type, f.offset, P.cellsOf f.type)) = l ∧ P.cellsOf t = n ∧ contig 0 (l.map (·.2)) = some n
theorem trod_fields {l : List (TypeId × Nat × Nat)} {n : Nat} (ht : FlT P t l n) {fuel : Nat} {cs : List Value} {x : DataW H × List MemPlace} (h : DataW.trod enc P w 0 spare held fuel t cs = some x) :
    cs = ((l.map (·.2)).map (piece cs)).flatten ∧ ∃ fuel', ∀ (i : Nat) (q : TypeId × Nat × Nat), l[i]? = some q → ∃ y, DataW.trod enc P w 0 spare held fuel' q.1 (piece cs q.2) = some y := by
  obtain ⟨fs, e1, rfl, e3, e4⟩ := ht.e
  obtain ⟨hl, fuel', hf⟩ := trod_struct e1 h
  refine ⟨by have := pieces (cs := cs) _ 0 (by rw [hl, e3]; exact e4); simpa using this, fuel', fun i q hi => ?_⟩
  rw [List.getElem?_map] at hi
  cases hq : fs.toList[i]? with
  | none => rw [hq] at hi; simp at hi
  | some f => rw [hq] at hi; simp at hi; subst hi; exact hf i f hq

def okI (n : Int) : Prop := IntKind.i64.min ≤ n ∧ n ≤ IntKind.i64.max
def Leaf.ok (x : Leaf) : Prop := okI x.at_
def Item.ok (x : Item) : Prop := okI x.len ∧ okI x.at_
structure I64T (P : Program) (t : TypeId) : Prop where
  e : P.underlying t = some (.int .i64)
theorem trod_i64 (ht : I64T P t) {fuel : Nat} {cs : List Value} {x : DataW H × List MemPlace} (h : DataW.trod enc P w 0 spare held fuel t cs = some x) : ∃ n, okI n ∧ cs = cells [sV (.int .i64 n)] := by
  obtain ⟨n, e, e1, e2⟩ := trod_int ht.e h
  exact ⟨n, ⟨e1, e2⟩, by rw [e]; rfl⟩

theorem trod_leaf {tl ti : TypeId} (ht : FlT P t [(tl, 0, 32), (tl, 32, 32), (ti, 64, 1)] 65) (hl : LabT P tl) (hi : I64T P ti) {fuel : Nat} {cs : List Value} {x : DataW H × List MemPlace} (h : DataW.trod enc P w 0 spare held fuel t cs = some x) :
    ∃ x : Leaf, cs = cells x.sg ∧ x.ok := by
  obtain ⟨e, f, hf⟩ := trod_fields ht h
  obtain ⟨_, h0⟩ := hf 0 _ rfl
  obtain ⟨_, h1⟩ := hf 1 _ rfl
  obtain ⟨_, h2⟩ := hf 2 _ rfl
  obtain ⟨a, ha⟩ := trod_lab hl h0
  obtain ⟨b, hb⟩ := trod_lab hl h1
  obtain ⟨n, hn, hc⟩ := trod_i64 hi h2
  refine ⟨⟨a, b, n⟩, ?_, hn⟩
  rw [e]
  simp only [List.map_cons, List.map_nil, List.flatten_cons, List.flatten_nil, ha, hb, hc, ← cells_append, List.append_nil]
  rfl
theorem Opn.leaf {tl ti : TypeId} (ht : FlT P t [(tl, 0, 32), (tl, 32, 32), (ti, 64, 1)] 65) (hl : LabT P tl) (hi : I64T P ti) : Opn H enc P w spare held t Leaf Leaf.ok :=
  ⟨by obtain ⟨_, _, _, e, _⟩ := ht.e; exact e, fun fuel cs d ps h => trod_leaf ht hl hi h⟩
theorem trod_pfx {tl ti : TypeId} (ht : FlT P t [(ti, 0, 1), (tl, 1, 32)] 33) (hl : LabT P tl) (hi : I64T P ti) {fuel : Nat} {cs : List Value} {x : DataW H × List MemPlace} (h : DataW.trod enc P w 0 spare held fuel t cs = some x) :
    ∃ (n : Int) (l : Lab), okI n ∧ cs = cells [sV (.int .i64 n), sL l] := by
  obtain ⟨e, f, hf⟩ := trod_fields ht h
  obtain ⟨_, h0⟩ := hf 0 _ rfl
  obtain ⟨_, h1⟩ := hf 1 _ rfl
  obtain ⟨n, hn, hc⟩ := trod_i64 hi h0
  obtain ⟨b, hb⟩ := trod_lab hl h1
  refine ⟨n, b, hn, ?_⟩
  rw [e]
  simp only [List.map_cons, List.map_nil, List.flatten_cons, List.flatten_nil, hb, hc, ← cells_append, List.append_nil]
  rfl
theorem trod_item {tp tl ti : TypeId} (ht : FlT P t [(tp, 0, 33), (tl, 33, 32), (ti, 65, 1)] 66) (hp : FlT P tp [(ti, 0, 1), (tl, 1, 32)] 33) (hl : LabT P tl) (hi : I64T P ti) {fuel : Nat} {cs : List Value} {x : DataW H × List MemPlace} (h : DataW.trod enc P w 0 spare held fuel t cs = some x) :
    ∃ x : Item, cs = cells x.sg ∧ x.ok := by
  obtain ⟨e, f, hf⟩ := trod_fields ht h
  obtain ⟨_, h0⟩ := hf 0 _ rfl
  obtain ⟨_, h1⟩ := hf 1 _ rfl
  obtain ⟨_, h2⟩ := hf 2 _ rfl
  obtain ⟨n, l, hn, ha⟩ := trod_pfx hp hl hi h0
  obtain ⟨b, hb⟩ := trod_lab hl h1
  obtain ⟨m, hm, hc⟩ := trod_i64 hi h2
  refine ⟨⟨n, l, b, m⟩, ?_, hn, hm⟩
  rw [e]
  simp only [List.map_cons, List.map_nil, List.flatten_cons, List.flatten_nil, ha, hb, hc, ← cells_append, List.append_nil]
  rfl
theorem Opn.item {tp tl ti : TypeId} (ht : FlT P t [(tp, 0, 33), (tl, 33, 32), (ti, 65, 1)] 66) (hp : FlT P tp [(ti, 0, 1), (tl, 1, 32)] 33) (hl : LabT P tl) (hi : I64T P ti) : Opn H enc P w spare held t Item Item.ok :=
  ⟨by obtain ⟨_, _, _, e, _⟩ := ht.e; exact e, fun fuel cs d ps h => trod_item ht hp hl hi h⟩
end
end Go.Ch
end
section
/- From a function's contract to a law's row: arguments opened, the frame shut. -/
set_option linter.unusedVariables false
set_option linter.unusedSimpArgs false
namespace Go.Ch
open Go.RowKit Go.WideShapes Go.ChangeShapes
open Enc (sg)

section
variable {H : Type} {enc : TypeId × Value → H} {P : Program}
/-- The row's last step where only this is known: what was there is as it was. -/
theorem post_of_below {f : Func} {s : ChangeSpec} {apart fresh handsOn again : Bool} {W W' : World} {args : Array Value} {v : Value} {ds gs : List (DataW H)} {before pa pv : List MemPlace}
    (hW : DataW.Whole enc P f.params.toList s.vars apart W args.toList ds gs before)
    (hres : ∀ (b : Nat) (sp : Nat → Bool) (hd : Bool), DataW.TrodAll enc P W' b sp hd f.resultTypes.toList (v.resultList f.resultTypes.size) (s.fn H (ds ++ gs)).results [])
    (hargs : ∀ sp : Nat → Bool, (∀ p ∈ before, sp p.block = true) → DataW.TrodAll enc P W' 0 sp true f.params.toList args.toList (s.fn H (ds ++ gs)).args pa)
    (hvars : ∀ sp : Nat → Bool, (∀ p ∈ before, sp p.block = true) → DataW.TrodVars enc P W' sp s.vars (s.fn H (ds ++ gs)).vars pv)
    (hps : before = pa ++ pv) (hb : Below W.heap.size W W')
    (hok : ∀ (j : Nat) (t : TypeId) (r : Value), f.resultTypes[j]? = some t → (v.resultList f.resultTypes.size)[j]? = some r → Value.okWide P W' .any 0 t r) :
    s.post enc P f apart fresh handsOn again W args v W' := by
  have hlt : ∀ p ∈ before, p.block < W.heap.size := fun p hp => hW.lt p hp
  have hold : ∀ p ∈ before, (fun b => decide (b < W.heap.size)) p.block = true := fun p hp => by simpa using hlt p hp
  refine ⟨ds, gs, before, [], pa, pv, hW, hres _ _ _, hargs _ hold, hvars _ hold, World.keptBut_mono (fun p hp => ⟨hp, ?_⟩) (hb.frame (· ∈ before)), fun _ => ?_⟩
  · rw [hps, List.mem_append] at hp
    exact Or.inr hp
  · obtain ⟨_, _, _, _, _, hz, hn⟩ := hW
    refine ⟨hok, _, _, ([] ++ pa) ++ pv, ⟨[] ++ pa, pv, trodAll_append (hargs _ (fun _ _ => rfl)) (hres _ _ _), hvars _ (fun _ _ => rfl), rfl, ?_, ?_⟩, ?_⟩
    · intro b off hp
      have hin : MemPlace.cell b off ∈ before := by rw [hps]; simpa using hp
      rw [hb.frozen (hlt _ hin)]
      exact hz b off hin
    · intro ha
      have := hn ha
      rw [hps] at this
      simpa using this
    · intro p hp _
      rw [hps]
      simpa using hp

theorem trodAll_stays (hl : laidOutB P = true) {W W' : World} {sp : Nat → Bool} : ∀ (ts : List TypeId) (vs : List Value) (ds : List (DataW H)) (ps : List MemPlace), ts.all (fun t => P.readableRec t && decide (t < P.types.size)) = true →
    DataW.TrodAll enc P W 0 (fun _ => true) true ts vs ds ps → (∀ p ∈ ps, W.sameAt W' p) → (∀ p ∈ ps, sp p.block = true) → DataW.TrodAll enc P W' 0 sp true ts vs ds ps
  | [], [], [], ps, _, h, _, _ => h
  | t :: ts, v :: vs, d :: ds, ps, hr, ⟨p, q, h1, h2, e⟩, hs, hsp => by
    simp only [List.all_cons, Bool.and_eq_true, decide_eq_true_eq] at hr
    subst e
    refine ⟨p, q, WideElems.Trod_stays hl hr.1.1 hr.1.2 h1 (fun x hx => hs x (by simp [hx])) (fun x hx => hsp x (by simp [hx])), ?_, rfl⟩
    exact trodAll_stays hl ts vs ds q hr.2 h2 (fun x hx => hs x (by simp [hx])) (fun x hx => hsp x (by simp [hx]))
  | [], _ :: _, _, _, _, h, _, _ => by simp [DataW.TrodAll] at h
  | [], [], _ :: _, _, _, h, _, _ => by simp [DataW.TrodAll] at h
  | _ :: _, [], _, _, _, h, _, _ => by simp [DataW.TrodAll] at h
  | _ :: _, _ :: _, [], _, _, h, _, _ => by simp [DataW.TrodAll] at h

/-- A law: whatever the input, it returns true; the input reads as it did. -/
theorem law_calls (hl : laidOutB P = true) {f : FuncId} {fn : Func} {s : ChangeSpec} {apart fresh handsOn again : Bool} {W : World} {args : Array Value} {ds gs : List (DataW H)} {before : List MemPlace} {tb : TypeId}
    (hW : DataW.Whole enc P fn.params.toList s.vars apart W args.toList ds gs before) (hvs : s.vars = [])
    (hfn : (s.fn H ds).results = [.lit (.bool true)] ∧ (s.fn H ds).args = ds ∧ (s.fn H ds).vars = [])
    (hr : fn.params.toList.all (fun t => P.readableRec t && decide (t < P.types.size)) = true) (hres : fn.resultTypes = #[tb]) (htb : P.underlying tb = some .bool)
    (h : Fn P f args.toList (hp W) (fun v _ => v = .bool true)) : Calls P f args W fun e W' => ∃ v, e = .returned v ∧ s.post enc P fn apart fresh handsOn again W args v W' := by
  have hs : Sat W (hp W) [] W := ⟨rfl, rfl, rfl, Hp.le_refl _, trivial⟩
  have hc := h W [] W hs
  rw [show args.toList.toArray = args by simp] at hc
  refine hc.mono fun e W' ⟨v, S', he, hle, hsat, hv⟩ => ⟨v, he, ?_⟩
  subst hv
  have hblk : ∀ k, k < W.heap.size → W'.heap[k]? = W.heap[k]? := fun k hk => by
    have e1 : hp W k = some W.heap[k] := by show W.heap[k]? = _; rw [Array.getElem?_eq_getElem hk]
    have := hsat.stay k _ (hle k _ e1)
    show hp W' k = hp W k
    rw [this, e1]
  have hsz : W.heap.size ≤ W'.heap.size := by
    rcases Nat.eq_zero_or_pos W.heap.size with q | q
    · omega
    · have := hblk (W.heap.size - 1) (by omega)
      rw [Array.getElem?_eq_getElem (show W.heap.size - 1 < W.heap.size by omega)] at this
      have := (Array.getElem?_eq_some_iff.1 this).1
      omega
  have hb : Below W.heap.size W W' := ⟨hsat.os, hsat.tape, hsat.output, hsz, hblk⟩
  have hW' := hW
  obtain ⟨p, q, hA, hV, e, hfz, hnd⟩ := hW
  rw [hvs] at hV
  obtain ⟨rfl, rfl⟩ := trodVars_none hV
  have hlt : ∀ x ∈ before, x.block < W.heap.size := fun x hx => hW'.lt x hx
  have hbp : before = p := by rw [e]; simp
  refine post_of_below (pa := before) (pv := []) hW' (fun b sp hd => ?_) (fun sp hsp => ?_) (fun sp _ => ?_) (by simp) hb ?_
  · rw [List.append_nil, hfn.1, hres]
    exact trodAll_mk1 ⟨1, by simp [DataW.trod, Value.cells, Value.resultList, htb]⟩
  · rw [List.append_nil, hfn.2.1]
    have hA' := hA
    rw [← hbp] at hA'
    exact trodAll_stays hl _ _ _ _ hr hA' (fun x hx => hb.same (hlt x hx)) hsp
  · rw [List.append_nil, hfn.2.2, hvs]; rfl
  · intro j t r hj hr
    rw [hres] at hj hr
    match j, hj, hr with
    | 0, hj, hr =>
      simp [Value.resultList] at hj hr
      subst hj; subst hr
      simp [Value.okWide, htb, Cell.okWide, Cell.ok]
    | j + 1, hj, hr => simp at hj

/-! ### arguments -/
theorem arg_agg {t : TypeId} {v : Value} {w : World} {base : Nat} (ht : (∃ fs, P.underlying t = some (.struct fs)) ∨ (∃ n e, P.underlying t = some (.array n e))) (h : Value.okWide P w .any base t v) : ∃ cs, v = .agg cs := by
  unfold Value.okWide at h
  rcases ht with ⟨fs, ht⟩ | ⟨n, e, ht⟩ <;> rw [ht] at h <;> exact ⟨_, h.choose_spec.1⟩
theorem arg_str {t : TypeId} {v : Value} {w : World} {base : Nat} (ht : P.underlying t = some .string) (h : Value.okWide P w .any base t v) : ∃ s, v = .string s := by
  unfold Value.okWide at h
  rw [ht] at h
  simp only at h
  unfold Cell.okWide at h
  rw [ht] at h
  cases v <;> simp_all [Cell.ok]
variable {w : World} {base : Nat} {t : TypeId} {v : Value} {d : DataW H} {ps : List MemPlace}
theorem agg_of {v : Value} {cs : Array Value} {L : List Seg} (hv : v = .agg cs) (h : v.cells.toList = cells L) : v = aggV L := by
  subst hv
  simp only [Value.cells] at h
  unfold aggV
  rw [← h]
end

/-! ### proofs -/
section
variable {H : Type} {enc : TypeId × Value → H} {P : Program} {w : World} {spare : Nat → Bool} {held : Bool} {t e : TypeId}
theorem trod_inner {tt tp tl ti : TypeId} (ht : FlT P t [(tt, 0, 66), (tt, 66, 66)] 132) (hitm : FlT P tt [(tp, 0, 33), (tl, 33, 32), (ti, 65, 1)] 66) (hpx : FlT P tp [(ti, 0, 1), (tl, 1, 32)] 33) (hl : LabT P tl) (hi : I64T P ti) {fuel : Nat} {cs : List Value} {x : DataW H × List MemPlace} (h : DataW.trod enc P w 0 spare held fuel t cs = some x) :
    ∃ a b : Item, cs = cells (a.sg ++ b.sg) ∧ a.ok ∧ b.ok := by
  obtain ⟨e, f, hf⟩ := trod_fields ht h
  obtain ⟨_, h0⟩ := hf 0 _ rfl
  obtain ⟨_, h1⟩ := hf 1 _ rfl
  obtain ⟨a, ha, oa⟩ := trod_item hitm hpx hl hi h0
  obtain ⟨b, hb, ob⟩ := trod_item hitm hpx hl hi h1
  refine ⟨a, b, ?_, oa, ob⟩
  rw [e]
  simp only [List.map_cons, List.map_nil, List.flatten_cons, List.flatten_nil, ha, hb, ← cells_append, List.append_nil]
def Proof.ok (p : Proof) : Prop := okI p.end_ ∧ p.leaf.ok ∧ p.a.ok ∧ p.b.ok ∧ ∀ x ∈ p.path, Item.ok x
theorem trod_proof {tf tn tt tp tl ti ts : TypeId} (ht : FlT P t [(ti, 0, 1), (tf, 1, 65), (tn, 66, 132), (ts, 198, 1)] 199) (hlf : FlT P tf [(tl, 0, 32), (tl, 32, 32), (ti, 64, 1)] 65) (hin : FlT P tn [(tt, 0, 66), (tt, 66, 66)] 132) (hitm : FlT P tt [(tp, 0, 33), (tl, 33, 32), (ti, 65, 1)] 66) (hpx : FlT P tp [(ti, 0, 1), (tl, 1, 32)] 33) (hl : LabT P tl) (hi : I64T P ti)
    (hsl : P.underlying ts = some (.slice tt)) {fuel : Nat} {cs : List Value} {x : DataW H × List MemPlace} (h : DataW.trod enc P w 0 spare held fuel t cs = some x) :
    ∃ (p : Proof) (v : Value), cs = cells [sV (.int .i64 p.end_), sL p.leaf.label, sL p.leaf.value, sV (.int .i64 p.leaf.at_), sV (.int .i64 p.a.len), sL p.a.bits, sL p.a.sum, sV (.int .i64 p.a.at_), sV (.int .i64 p.b.len), sL p.b.bits, sL p.b.sum, sV (.int .i64 p.b.at_), sV v] ∧ Sls (hp w) v p.path ∧ p.path.length ≤ maxLen ∧ p.ok := by
  obtain ⟨e, f, hf⟩ := trod_fields ht h
  obtain ⟨_, h0⟩ := hf 0 _ rfl
  obtain ⟨_, h1⟩ := hf 1 _ rfl
  obtain ⟨_, h2⟩ := hf 2 _ rfl
  obtain ⟨_, h3⟩ := hf 3 _ rfl
  obtain ⟨n, on, hn⟩ := trod_i64 hi h0
  obtain ⟨lf, hlf', olf⟩ := trod_leaf hlf hl hi h1
  obtain ⟨a, b, hab, oa, ob⟩ := trod_inner hin hitm hpx hl hi h2
  obtain ⟨v, xs, hv, hxs, hlen, oxs⟩ := trod_slc hsl (Opn.item hitm hpx hl hi) h3
  refine ⟨⟨n, lf, a, b, xs⟩, v, ?_, hxs, hlen, on, olf, oa, ob, oxs⟩
  rw [e]
  simp only [List.map_cons, List.map_nil, List.flatten_cons, List.flatten_nil, hn, hlf', hab, hv, ← cells_append, List.append_nil]
  rfl
end
end Go.Ch
end
section
/- Plain laws: loops by counting; numbers that don't wrap. -/
set_option linter.unusedVariables false
set_option linter.unusedSimpArgs false
namespace Go.Ch
open Go.RowKit (wrap64)

theorem iterN_to {σ β : Type} (step : σ → Option (σ ⊕ β)) (f : Nat → σ) (b : β) : ∀ (n m : Nat), (∀ k, m ≤ k → k < m + n → step (f k) = some (.inl (f (k + 1)))) → step (f (m + n)) = some (.inr b) → iterN step (n + 1) (f m) = some b
  | 0, m, _, e => by simp only [iterN]; rw [Nat.add_zero] at e; rw [e]
  | n + 1, m, h, e => by
    rw [iterN, h m (Nat.le_refl _) (by omega)]
    exact iterN_to step f b n (m + 1) (fun k h1 h2 => h k (by omega) (by omega)) (by rw [show m + 1 + n = m + (n + 1) from by omega]; exact e)
/-- So many rounds, then the end. -/
theorem iter_to {σ β : Type} {step : σ → Option (σ ⊕ β)} (f : Nat → σ) (n : Nat) {b : β} (h : ∀ k, k < n → step (f k) = some (.inl (f (k + 1)))) (e : step (f n) = some (.inr b)) : iter step (f 0) = some b :=
  iter_some.2 ⟨n + 1, iterN_to step f b n 0 (fun k _ hk => h k (by omega)) (by simpa using e)⟩
theorem iter_end {σ β : Type} {step : σ → Option (σ ⊕ β)} {s : σ} {b : β} (h : step s = some (.inr b)) : iter step s = some b := by rw [iter_eq, h]; rfl
theorem iter_next {σ β : Type} {step : σ → Option (σ ⊕ β)} {s s' : σ} {r : Option β} (h : step s = some (.inl s')) (hr : iter step s' = r) : iter step s = r := by rw [iter_eq, h]; exact hr

/-- A loop over a list, by a recursion over what is left; st: the loop's state at a place. -/
theorem iter_list {α τ σ β : Type} {step : τ → Option (τ ⊕ β)} (st : Nat → σ → τ) (xs : List α) (I : List α → σ → Prop) (go : List α → List α → σ → β)
    (hnil : ∀ s, I xs s → step (st xs.length s) = some (.inr (go xs [] s)))
    (hcons : ∀ pre x r s, xs = pre ++ x :: r → I pre s → (∃ s', I (pre ++ [x]) s' ∧ step (st pre.length s) = some (.inl (st (pre.length + 1) s')) ∧ go pre (x :: r) s = go (pre ++ [x]) r s') ∨ step (st pre.length s) = some (.inr (go pre (x :: r) s))) :
    ∀ (r pre : List α) (s : σ), xs = pre ++ r → I pre s → iter step (st pre.length s) = some (go pre r s)
  | [], pre, s, e, hI => by
    simp at e; subst e
    exact iter_end (hnil s hI)
  | x :: r, pre, s, e, hI => by
    rcases hcons pre x r s e hI with ⟨s', h1, h2, h3⟩ | h
    · rw [h3]
      have := iter_list st xs I go hnil hcons r (pre ++ [x]) s' (by simp [e]) h1
      rw [List.length_append, List.length_singleton] at this
      exact iter_next h2 this
    · exact iter_end h
/-- A loop over a whole list that only gathers. -/
theorem iter_fold {α τ σ β : Type} {step : τ → Option (τ ⊕ β)} (st : Nat → σ → τ) (xs : List α) (F : List α → σ) {b : β}
    (hcons : ∀ pre x r, xs = pre ++ x :: r → step (st pre.length (F pre)) = some (.inl (st (pre.length + 1) (F (pre ++ [x])))))
    (hnil : step (st xs.length (F xs)) = some (.inr b)) : iter step (st 0 (F [])) = some b := by
  have := iter_list st xs (fun pre s => s = F pre) (fun _ _ _ => b) (fun s h => by subst h; exact hnil) (fun pre x r s e h => .inl ⟨_, rfl, by subst h; exact hcons pre x r e, rfl⟩) xs [] (F []) rfl rfl
  exact this

theorem req_t {c : Prop} [Decidable c] {α : Type} {f : Unit → Option α} (h : c) : (req c).bind f = f () := by simp [req, h]
theorem wrap_id {n : Int} (h : -9223372036854775808 ≤ n ∧ n < 9223372036854775808) : wrap64 n = n := by unfold Go.RowKit.wrap64; omega
theorem some_bind {α β : Type} (a : α) (f : α → Option β) : (some a).bind f = f a := by have h := Option.bind_some a f; rw [h]
theorem dec_t {c : Prop} [Decidable c] (h : c) : decide c = true := decide_eq_true h
theorem dec_f {c : Prop} [Decidable c] (h : ¬ c) : decide c = false := decide_eq_false h
theorem getI_mid {α : Type} [Inhabited α] (pre : List α) (x : α) (r : List α) : getI (pre ++ x :: r) (pre.length : Int) = x := by
  unfold getI; simp
theorem getI_nat {α : Type} [Inhabited α] (l : List α) (k : Nat) (h : k < l.length) : getI l (k : Int) = l[k] := by
  unfold getI; simp [h]
theorem getV_nat {α : Type} [Inhabited α] {m : Nat} (l : Vector α m) (k : Nat) (h : k < m) : getV l (k : Int) = l[k] := by
  unfold getV; rw [getI_nat _ _ (by simpa using h)]; simp
theorem setV_nat {α : Type} {m : Nat} (l : Vector α m) (k : Nat) (x : α) (h : k < m) : setV l (k : Int) x = l.set k x := by
  unfold setV; apply Vector.ext; intro i hi; simp [Vector.getElem_setIfInBounds, Vector.getElem_set]
theorem cutL_to {α : Type} (l : List α) (k : Nat) : cutL l 0 (k : Int) = l.take k := by simp [cutL]
theorem cutL_from {α : Type} (l : List α) (k : Nat) : cutL l (k : Int) (lenI l) = l.drop k := by
  simp only [cutL, lenI, Int.toNat_natCast]; exact List.take_of_length_le (by simp)
end Go.Ch
end
section
/- Plain laws: labels as 256 bits. -/
set_option linter.unusedVariables false
set_option linter.unusedSimpArgs false
namespace Go.Ch
open Go.RowKit (wrap64)

/-- Bit k of a byte, the highest first. -/
def bt8 (x : UInt8) (k : Nat) : Bool := x.toNat / 2 ^ (7 - k) % 2 == 1
/-- Bit i of a label. -/
def bt (l : Lab) (i : Nat) : Bool := bt8 (l.toList.getD (i / 8) 0) (i % 8)
def b01 (b : Bool) : Int := if b then 1 else 0
theorem b01_one (b : Bool) : (b01 b == 1) = b := by cases b <;> rfl
theorem b01_ne (a b : Bool) : (b01 a != b01 b) = (a != b) := by cases a <;> cases b <;> rfl

theorem bt8_test (x : UInt8) (k : Nat) (h : k < 8) : bt8 x k = x.toNat.testBit (7 - k) := by
  unfold bt8
  rw [Nat.testBit_eq_decide_div_mod_eq]
  rfl
theorem bt8_xor (x y : UInt8) (k : Nat) (h : k < 8) : bt8 (x ^^^ y) k = (bt8 x k ^^ bt8 y k) := by
  rw [bt8_test _ _ h, bt8_test _ _ h, bt8_test _ _ h, UInt8.toNat_xor, Nat.testBit_xor]
theorem bt8_and (x y : UInt8) (k : Nat) (h : k < 8) : bt8 (x &&& y) k = (bt8 x k && bt8 y k) := by
  rw [bt8_test _ _ h, bt8_test _ _ h, bt8_test _ _ h, UInt8.toNat_and, Nat.testBit_and]
theorem bt8_ext (x y : UInt8) (h : ∀ k, k < 8 → bt8 x k = bt8 y k) : x = y := by
  apply UInt8.toNat_inj.1
  apply Nat.eq_of_testBit_eq
  intro i
  rcases Nat.lt_or_ge i 8 with hi | hi
  · have := h (7 - i) (by omega)
    rw [bt8_test _ _ (by omega), bt8_test _ _ (by omega), show 7 - (7 - i) = i from by omega] at this
    exact this
  · rw [Nat.testBit_lt_two_pow (Nat.lt_of_lt_of_le (UInt8.toNat_lt x) (Nat.pow_le_pow_right (by omega) hi)), Nat.testBit_lt_two_pow (Nat.lt_of_lt_of_le (UInt8.toNat_lt y) (Nat.pow_le_pow_right (by omega) hi))]
theorem bt8_zero (k : Nat) : bt8 0 k = false := by unfold bt8; simp

theorem bt_at (l : Lab) (j k : Nat) (hj : j < 32) (hk : k < 8) : bt l (8 * j + k) = bt8 l[j] k := by
  unfold bt
  rw [show (8 * j + k) / 8 = j from by omega, show (8 * j + k) % 8 = k from by omega]
  congr 1
  simp [List.getD_eq_getElem?_getD, hj]
theorem bt_byte (l : Lab) (i : Nat) (hi : i < 256) : bt l i = bt8 (l[i / 8]'(by omega)) (i % 8) := by
  have := bt_at l (i / 8) (i % 8) (by omega) (by omega)
  rw [show 8 * (i / 8) + i % 8 = i from by omega] at this
  exact this
theorem lab_ext {a b : Lab} (h : ∀ i, i < 256 → bt a i = bt b i) : a = b := by
  apply Vector.ext
  intro j hj
  apply bt8_ext
  intro k hk
  have := h (8 * j + k) (by omega)
  rwa [bt_at a j k hj hk, bt_at b j k hj hk] at this
theorem bt_big (l : Lab) (i : Nat) (h : 256 ≤ i) : bt l i = false := by
  unfold bt
  rw [List.getD_eq_getElem?_getD, List.getElem?_eq_none (by simp; omega)]
  exact bt8_zero _
theorem bt_zL (i : Nat) : bt zL i = false := by
  unfold bt zL
  rw [Vector.toList_replicate, List.getD_eq_getElem?_getD, List.getElem?_replicate]
  split <;> exact bt8_zero _

def mk8 (f : Nat → Bool) : UInt8 := UInt8.ofNat ((f 0).toNat * 128 + (f 1).toNat * 64 + (f 2).toNat * 32 + (f 3).toNat * 16 + (f 4).toNat * 8 + (f 5).toNat * 4 + (f 6).toNat * 2 + (f 7).toNat)
theorem bt8_mk8 (f : Nat → Bool) (k : Nat) (h : k < 8) : bt8 (mk8 f) k = f k := by
  unfold mk8 bt8
  have h0 : ∀ b : Bool, b.toNat ≤ 1 := fun b => by cases b <;> simp
  rw [UInt8.toNat_ofNat_of_lt' (by have := h0 (f 0); have := h0 (f 1); have := h0 (f 2); have := h0 (f 3); have := h0 (f 4); have := h0 (f 5); have := h0 (f 6); have := h0 (f 7); show _ < 256; omega)]
  have key : ∀ k : Fin 8, ∀ b0 b1 b2 b3 b4 b5 b6 b7 : Bool, ((b0.toNat * 128 + b1.toNat * 64 + b2.toNat * 32 + b3.toNat * 16 + b4.toNat * 8 + b5.toNat * 4 + b6.toNat * 2 + b7.toNat) / 2 ^ (7 - k.1) % 2 == 1) = (match k.1 with | 0 => b0 | 1 => b1 | 2 => b2 | 3 => b3 | 4 => b4 | 5 => b5 | 6 => b6 | _ => b7) := by decide
  have hk : k = 0 ∨ k = 1 ∨ k = 2 ∨ k = 3 ∨ k = 4 ∨ k = 5 ∨ k = 6 ∨ k = 7 := by omega
  rcases hk with rfl | rfl | rfl | rfl | rfl | rfl | rfl | rfl
  · exact key 0 _ _ _ _ _ _ _ _
  · exact key 1 _ _ _ _ _ _ _ _
  · exact key 2 _ _ _ _ _ _ _ _
  · exact key 3 _ _ _ _ _ _ _ _
  · exact key 4 _ _ _ _ _ _ _ _
  · exact key 5 _ _ _ _ _ _ _ _
  · exact key 6 _ _ _ _ _ _ _ _
  · exact key 7 _ _ _ _ _ _ _ _
/-- The label of 256 bits. -/
def ofB (f : Nat → Bool) : Lab := Vector.ofFn fun j : Fin 32 => mk8 fun k => f (8 * j.1 + k)
theorem bt_ofB (f : Nat → Bool) (i : Nat) (h : i < 256) : bt (ofB f) i = f i := by
  rw [bt_byte _ _ h]
  unfold ofB
  simp only [Vector.getElem_ofFn]
  rw [bt8_mk8 _ _ (by omega), show 8 * (i / 8) + i % 8 = i from by omega]

/-! ### how far two labels go together -/
def com (l m : Lab) : Nat := ((List.range 256).find? fun i => bt l i != bt m i).getD 256
theorem com_spec (l m : Lab) : com l m ≤ 256 ∧ (∀ k, k < com l m → bt l k = bt m k) ∧ (com l m < 256 → bt l (com l m) ≠ bt m (com l m)) := by
  unfold com
  cases h : (List.range 256).find? fun i => bt l i != bt m i with
  | none =>
    rw [List.find?_eq_none] at h
    refine ⟨by simp, fun k hk => ?_, fun hk => by simp at hk⟩
    have := h k (by simpa using hk)
    simpa using this
  | some i =>
    obtain ⟨h1, us, vs, h2, h3⟩ := List.find?_eq_some_iff_append.1 h
    have hi : i < 256 := by
      have : i ∈ List.range 256 := by rw [h2]; simp
      simpa using this
    have hlen : us.length = i := by
      have h5 : (List.range 256)[us.length]? = some i := by rw [h2]; simp
      have h6 : us.length < 256 := by have := congrArg List.length h2; simp at this; omega
      rw [List.getElem?_range h6] at h5
      exact Option.some.inj h5
    refine ⟨by simp; omega, fun k hk => ?_, fun _ => by simpa using h1⟩
    simp at hk
    have hm : k ∈ us := by
      have := congrArg (·[k]?) h2
      simp only [List.getElem?_append_left (show k < us.length by omega)] at this
      rw [List.getElem?_range (by omega)] at this
      exact List.mem_of_getElem? this.symm
    have := h3 k hm
    simpa using this
theorem com_le (l m : Lab) : com l m ≤ 256 := (com_spec l m).1
theorem com_bt {l m : Lab} {k : Nat} (h : k < com l m) : bt l k = bt m k := (com_spec l m).2.1 k h
theorem com_ne {l m : Lab} (h : com l m < 256) : bt l (com l m) ≠ bt m (com l m) := (com_spec l m).2.2 h
theorem le_com {l m : Lab} {n : Nat} (hn : n ≤ 256) (h : ∀ k, k < n → bt l k = bt m k) : n ≤ com l m := by
  rcases Nat.lt_or_ge (com l m) n with c | c
  · exact absurd (h _ c) (com_ne (by omega))
  · exact c
theorem com_eq {l m : Lab} {n : Nat} (hn : n ≤ 256) (h : ∀ k, k < n → bt l k = bt m k) (hne : n < 256 → bt l n ≠ bt m n) : com l m = n := by
  have h1 := le_com hn h
  rcases Nat.lt_or_ge n (com l m) with c | c
  · exact absurd (com_bt c) (hne (by have := com_le l m; omega))
  · omega
theorem com_self (l : Lab) : com l l = 256 := com_eq (Nat.le_refl _) (fun _ _ => rfl) (fun h => absurd h (by omega))
theorem com_comm (l m : Lab) : com l m = com m l := com_eq (com_le _ _) (fun k h => (com_bt h).symm) (fun h => (com_ne h).symm)
theorem com_full {l m : Lab} (h : com l m = 256) : l = m := lab_ext fun i hi => com_bt (by omega)
theorem com_lt {l m : Lab} (h : l ≠ m) : com l m < 256 := by
  rcases Nat.lt_or_ge (com l m) 256 with c | c
  · exact c
  · exact absurd (com_full (by have := com_le l m; omega)) h
theorem com_min {a b c : Lab} (h : com a b < com b c) : com a c = com a b := by
  have hb := com_le b c
  refine com_eq (com_le _ _) (fun k hk => (com_bt hk).trans (com_bt (by omega))) (fun hl => ?_)
  rw [← com_bt h]; exact com_ne hl

/-! ### the order -/
def lt (a b : Lab) : Bool := decide (com a b < 256) && bt b (com a b)
def ord (a b : Lab) : Int := if com a b = 256 then 0 else 2 * b01 (bt a (com a b)) - 1
theorem lt_iff {a b : Lab} : lt a b = true ↔ com a b < 256 ∧ bt a (com a b) = false ∧ bt b (com a b) = true := by
  unfold lt
  simp only [Bool.and_eq_true, decide_eq_true_eq]
  refine ⟨fun ⟨h1, h2⟩ => ⟨h1, ?_, h2⟩, fun ⟨h1, _, h2⟩ => ⟨h1, h2⟩⟩
  have := com_ne h1
  rw [h2] at this
  simpa using this
theorem lt_of {a b : Lab} {n : Nat} (hn : n < 256) (h : ∀ k, k < n → bt a k = bt b k) (h0 : bt a n = false) (h1 : bt b n = true) : lt a b = true := by
  have : com a b = n := com_eq (by omega) h (fun _ => by simp [h0, h1])
  rw [lt_iff, this]; exact ⟨hn, h0, h1⟩
theorem lt_asymm {a b : Lab} (h : lt a b = true) : lt b a = false := by
  obtain ⟨h1, h2, h3⟩ := lt_iff.1 h
  unfold lt; rw [com_comm b a]; simp [h2]
theorem lt_or {a b : Lab} (h : a ≠ b) : lt a b = true ∨ lt b a = true := by
  have hc := com_lt h
  have hn := com_ne hc
  cases h1 : bt b (com a b) with
  | true => left; unfold lt; simp [hc, h1]
  | false =>
    right; unfold lt; rw [com_comm b a]
    rw [h1] at hn
    simp at hn; simp [hc, hn]
theorem lt_trans {a b c : Lab} (h : lt a b = true) (k : lt b c = true) : lt a c = true := by
  obtain ⟨h1, h2, h3⟩ := lt_iff.1 h
  obtain ⟨k1, k2, k3⟩ := lt_iff.1 k
  rcases Nat.lt_trichotomy (com a b) (com b c) with q | q | q
  · exact lt_of h1 (fun i hi => (com_bt hi).trans (com_bt (by omega))) h2 (by rw [← com_bt q]; exact h3)
  · rw [q] at h3; rw [h3] at k2; cases k2
  · exact lt_of k1 (fun i hi => (com_bt (by omega)).trans (com_bt hi)) (by rw [com_bt q]; exact k2) k3
theorem ord_neg (a b : Lab) : (ord a b < 0) ↔ lt a b = true := by
  rw [lt_iff]; unfold ord
  have := com_le a b
  by_cases h : com a b = 256
  · simp [h]
  · have hn := com_ne (show com a b < 256 by omega)
    simp only [if_neg h]
    cases h1 : bt a (com a b) <;> cases h2 : bt b (com a b) <;> simp_all [b01] <;> omega
theorem ord_pos (a b : Lab) : (0 < ord a b) ↔ lt b a = true := by
  rw [lt_iff, com_comm b a]; unfold ord
  have := com_le a b
  by_cases h : com a b = 256
  · simp [h]
  · have hn := com_ne (show com a b < 256 by omega)
    simp only [if_neg h]
    cases h1 : bt a (com a b) <;> cases h2 : bt b (com a b) <;> simp_all [b01] <;> omega
theorem ord_cases (a b : Lab) : ord a b = -1 ∨ ord a b = 0 ∨ ord a b = 1 := by
  unfold ord
  split
  · simp
  · cases bt a (com a b) <;> simp [b01]
theorem ord_m1 (a b : Lab) : ord a b = -1 ↔ lt a b = true := by
  rw [← ord_neg]; have := ord_cases a b; omega
/-! ### beginnings -/
def cut (l : Lab) (n : Nat) : Lab := ofB fun i => decide (i < n) && bt l i
theorem bt_cut (l : Lab) (n i : Nat) : bt (cut l n) i = (decide (i < n) && bt l i) := by
  unfold cut
  rcases Nat.lt_or_ge i 256 with h | h
  · rw [bt_ofB _ _ h]
  · rw [bt_big _ _ h, bt_big _ _ h]; simp
theorem cut_full (l : Lab) : cut l 256 = l := lab_ext fun i hi => by rw [bt_cut]; simp [hi]
theorem cut_cut (l : Lab) (n m : Nat) : cut (cut l n) m = cut l (min n m) := lab_ext fun i hi => by
  rw [bt_cut, bt_cut, bt_cut]; simp only [← Bool.and_assoc]; congr 1; rw [← Bool.decide_and]; congr 1; simp; omega
theorem cut_eq_iff (a b : Lab) (n : Nat) (hn : n ≤ 256) : cut a n = cut b n ↔ n ≤ com a b := by
  constructor
  · intro h
    refine le_com hn fun k hk => ?_
    have := congrArg (bt · k) h
    simpa [bt_cut, hk] using this
  · intro h
    refine lab_ext fun i hi => ?_
    rw [bt_cut, bt_cut]
    by_cases c : i < n
    · simp [c, com_bt (Nat.lt_of_lt_of_le c h)]
    · simp [c]
/-- Are the bits behind n nought? -/
def goodB (n : Int) (l : Lab) : Bool := decide (0 ≤ n ∧ n ≤ 256) && cut l n.toNat == l
theorem good_cut (l : Lab) (n : Nat) (hn : n ≤ 256) : goodB n (cut l n) = true := by
  unfold goodB; simp [cut_cut]; omega
theorem good_iff {n : Int} {l : Lab} : goodB n l = true ↔ 0 ≤ n ∧ n ≤ 256 ∧ cut l n.toNat = l := by
  unfold goodB; simp [and_assoc]
theorem cut_is {n : Int} {p l : Lab} (h : goodB n p = true) : (cut l n.toNat = p) ↔ n ≤ com p l := by
  obtain ⟨h1, h2, h3⟩ := good_iff.1 h
  have := cut_eq_iff p l n.toNat (by omega)
  rw [h3] at this
  rw [show (n ≤ ((com p l : Nat) : Int)) ↔ n.toNat ≤ com p l from by omega, ← this]
  exact eq_comm
end Go.Ch
end
