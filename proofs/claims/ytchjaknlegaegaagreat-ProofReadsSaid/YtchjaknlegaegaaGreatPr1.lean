/- ProofReads returns true at every input, and the input reads as it did. Part 2 of 5. No condition. -/
import Derived.Test.YtchjaknlegaegaaGreatProg
import Derived.Test.YtchjaknlegaegaaGreatPr0
section
/- Things of several parts behind one assertion; readers and writers. -/
set_option linter.unusedVariables false
set_option linter.unusedSimpArgs false
namespace Go.Ch
open Go.RowKit (wrap64)

def Two (A B : Asn) : Asn := fun h => Holds [A, B] h
theorem Holds.two_split {A B : Asn} {L : List Asn} {h : Hp} : Holds (Two A B :: L) h → Holds (A :: B :: L) h := fun ⟨h1, ⟨x, ax, xle, y, b, yle, _⟩, le, H⟩ =>
  ⟨x, ax, Hp.le_trans xle le, y, b, Hp.le_trans yle (Hp.minus_mono x le), H.mono fun p q e => by
    obtain ⟨e1, e2⟩ := Hp.minus_some e
    have nx : x p = none := by
      cases r : x p with
      | none => rfl
      | some z => have := xle p z r; rw [e1] at this; cases this
    have ny : y p = none := by
      cases r : y p with
      | none => rfl
      | some z => have := (Hp.minus_some (yle p z r)).2; rw [e1] at this; cases this
    exact Hp.minus_mk ny (Hp.minus_mk nx e2)⟩
theorem Holds.two_join {A B : Asn} {L : List Asn} {h : Hp} : Holds (A :: B :: L) h → Holds (Two A B :: L) h := fun ⟨x, ax, xle, y, b, yle, H⟩ => by
  refine ⟨x.plus y, ⟨x, ax, fun p q e => by unfold Hp.plus; rw [e], y, b, fun p q e => ?_, trivial⟩, fun p q e => ?_, H.mono fun p q e => ?_⟩
  · have := (Hp.minus_some (yle p q e)).1
    exact Hp.minus_mk this (by unfold Hp.plus; rw [this]; exact e)
  · unfold Hp.plus at e
    cases r : x p with
    | some z => rw [r] at e; cases e; exact xle p _ r
    | none => rw [r] at e; exact (Hp.minus_some (yle p q e)).2
  · obtain ⟨e1, e2⟩ := Hp.minus_some e
    obtain ⟨e3, e4⟩ := Hp.minus_some e2
    exact Hp.minus_mk (by unfold Hp.plus; rw [e3]; exact e1) e4

section
variable {P : Program} {n : Nat} {o : World} {Q : Exit → Act → World → Prop} {E : Env} {S : Hp} {L M : List Asn}
variable {ops : Array Oper} {s : Nat} {S0 : Hp} {L0 L1 : List Asn} {fuel : Nat} {listed : Array Bool} {rest : List Oper}
theorem Sat.two_open {w : World} {k : Nat} {A B : Asn} (h : Sat o S L w) (hk : L[k]? = some (Two A B)) : Sat o S (B :: L.set k A) w := by
  have h1 := h.takeOut hk
  have h2 : Sat o S (A :: B :: L.set k fun _ => True) w := ⟨h1.os, h1.tape, h1.output, h1.stay, h1.own.two_split⟩
  have h3 := h2.putBack (k := k + 1) (A' := A) (by have := (List.getElem?_eq_some_iff.1 hk).1; simp [this])
  simpa using h3
theorem Sat.two_fold {w : World} {k j : Nat} {A B : Asn} (h : Sat o S L w) (hk : L[k]? = some A) (hj : L[j]? = some B) (hkj : k ≠ j) : Sat o S (((L.set k fun _ => True).set j fun _ => True).set k (Two A B)) w := by
  have lk := (List.getElem?_eq_some_iff.1 hk).1
  have lj := (List.getElem?_eq_some_iff.1 hj).1
  have h1 := h.takeOut hk
  have h2 := h1.takeOut (k := j + 1) (A := B) (by simp [List.getElem?_set, hkj, hj])
  have h3 : Sat o S (A :: B :: (L.set k fun _ => True).set j fun _ => True) w := by
    have h4 := h2.perm (List.Perm.swap A B _)
    simpa using h4
  have h5 : Sat o S (Two A B :: (L.set k fun _ => True).set j fun _ => True) w := ⟨h3.os, h3.tape, h3.output, h3.stay, h3.own.two_join⟩
  exact h5.putBack (k := k) (by simp [List.getElem?_set, hkj, lk, lj, Ne.symm hkj])

/-! ### writers -/
structure Wr where
  b : List UInt8
  err : Int
  deriving DecidableEq
structure Rd where
  s : Str
  at_ : Int
  err : Int
  deriving DecidableEq
instance : Inhabited Wr := ⟨⟨[], 0⟩⟩
instance : Inhabited Rd := ⟨⟨[], 0, 0⟩⟩
def WrA (b : Nat) (x : Wr) : Asn := fun h => ∃ v, Two (Blk b [sV v, sV (.int .i64 x.err)]) (Rw v x.b) h
theorem Sat.exi {w : World} {α : Type} {A : α → Asn} {k : Nat} (h : Sat o S L w) (hk : L[k]? = some fun h => ∃ a, A a h) : ∃ a, Sat o S (L.set k (A a)) w := by
  obtain ⟨h1, ⟨a, ha⟩, le, H⟩ := (h.takeOut hk).own
  have lk := (List.getElem?_eq_some_iff.1 hk).1
  have h2 : Sat o S (A a :: L.set k fun _ => True) w := ⟨h.os, h.tape, h.output, h.stay, h1, ha, le, H⟩
  refine ⟨a, ?_⟩
  have := h2.putBack (k := k) (by simp [lk])
  simpa using this
theorem Sat.exi_mk {w : World} {α : Type} {A : α → Asn} {k : Nat} (a : α) (h : Sat o S L w) (hk : L[k]? = some (A a)) : Sat o S (L.set k fun h => ∃ a, A a h) w := by
  obtain ⟨h1, ha, le, H⟩ := (h.takeOut hk).own
  have lk := (List.getElem?_eq_some_iff.1 hk).1
  have h2 : Sat o S ((fun h => ∃ a, A a h) :: L.set k fun _ => True) w := ⟨h.os, h.tape, h.output, h.stay, h1, ⟨a, ha⟩, le, H⟩
  have := h2.putBack (k := k) (by simp [lk])
  simpa using this
theorem Sat.openW {w : World} {k b : Nat} {x : Wr} (h : Sat o S L w) (hk : L[k]? = some (WrA b x)) : ∃ v, Sat o S (Rw v x.b :: L.set k (Blk b [sV v, sV (.int .i64 x.err)])) w := by
  have lk := (List.getElem?_eq_some_iff.1 hk).1
  obtain ⟨v, h1⟩ := h.exi hk
  have h2 := h1.two_open (k := k) (A := Blk b [sV v, sV (.int .i64 x.err)]) (B := Rw v x.b) (by simp [lk])
  exact ⟨v, by simpa using h2⟩
theorem Sat.foldW {w : World} {k j b : Nat} {v : Value} {e : Int} {xs : List UInt8} (h : Sat o S L w) (hk : L[k]? = some (Blk b [sV v, sV (.int .i64 e)])) (hj : L[j]? = some (Rw v xs)) (hkj : k ≠ j) :
    Sat o S (((L.set k fun _ => True).set j fun _ => True).set k (WrA b ⟨xs, e⟩)) w := by
  have lk := (List.getElem?_eq_some_iff.1 hk).1
  have h1 := h.two_fold hk hj hkj
  have h2 := h1.exi_mk (A := fun v => Two (Blk b [sV v, sV (.int .i64 e)]) (Rw v xs)) (k := k) v (by simp [lk])
  rw [List.set_set] at h2
  exact h2
theorem G.openW {c : Code} {b : Nat} {x : Wr} (k : Nat) (hk : L[k]? = some (WrA b x)) (h : ∀ v, G P n o c Q E S (Rw v x.b :: L.set k (Blk b [sV v, sV (.int .i64 x.err)]))) : G P n o c Q E S L :=
  fun a w f st => by obtain ⟨v, h1⟩ := st.openW hk; exact h v a w f h1
theorem GO.openW {b : Nat} {x : Wr} (k : Nat) (hk : L[k]? = some (WrA b x)) (h : ∀ v, GO P n o ops rest Q E S (Rw v x.b :: L.set k (Blk b [sV v, sV (.int .i64 x.err)]))) : GO P n o ops rest Q E S L :=
  fun a w f st => by obtain ⟨v, h1⟩ := st.openW hk; exact h v a w f h1
theorem GX.openW {e : Exit} {b : Nat} {x : Wr} (k : Nat) (hk : L[k]? = some (WrA b x)) (h : ∀ v, GX n o e Q E S (Rw v x.b :: L.set k (Blk b [sV v, sV (.int .i64 x.err)]))) : GX n o e Q E S L :=
  fun a w f st => by obtain ⟨v, h1⟩ := st.openW hk; exact h v a w f h1
theorem G.foldW {c : Code} {b : Nat} {v : Value} {e : Int} {xs : List UInt8} (k j : Nat) (hk : L[k]? = some (Blk b [sV v, sV (.int .i64 e)])) (hj : L[j]? = some (Rw v xs)) (hkj : k ≠ j)
    (h : G P n o c Q E S (((L.set k fun _ => True).set j fun _ => True).set k (WrA b ⟨xs, e⟩))) : G P n o c Q E S L := fun a w f st => h a w f (st.foldW hk hj hkj)
theorem GO.foldW {b : Nat} {v : Value} {e : Int} {xs : List UInt8} (k j : Nat) (hk : L[k]? = some (Blk b [sV v, sV (.int .i64 e)])) (hj : L[j]? = some (Rw v xs)) (hkj : k ≠ j)
    (h : GO P n o ops rest Q E S (((L.set k fun _ => True).set j fun _ => True).set k (WrA b ⟨xs, e⟩))) : GO P n o ops rest Q E S L := fun a w f st => h a w f (st.foldW hk hj hkj)
theorem GX.foldW {ex : Exit} {b : Nat} {v : Value} {e : Int} {xs : List UInt8} (k j : Nat) (hk : L[k]? = some (Blk b [sV v, sV (.int .i64 e)])) (hj : L[j]? = some (Rw v xs)) (hkj : k ≠ j)
    (h : GX n o ex Q E S (((L.set k fun _ => True).set j fun _ => True).set k (WrA b ⟨xs, e⟩))) : GX n o ex Q E S L := fun a w f st => h a w f (st.foldW hk hj hkj)
variable {ty t t' : TypeId} {x y : Operand}
/-! ### nodes: against nil, taken as what they are -/
structure IfcT (P : Program) (t : TypeId) : Prop where
  e : ∃ ms, P.underlying t = some (.interface ms)
theorem Y.neNil {tv : TypeId} {v : Value} (hx : ev E x = some (.iface tv v)) (hy : ev E y = some .nilIface) (ht : IfcT P t) : Yld P n o E S L (.binOp .neq t x y t') ty (.bool true) := fun a w f s _ _ _ _ => by
  obtain ⟨ms, e1⟩ := ht.e
  have e0' : ∀ d, (Op.equalIn (d + 1) t (.iface tv v) .nilIface).run P w = .ok false w := fun d => by simp [Op.equalIn, run_underlying e1]
  have e0 := e0' 9999
  simp only [execOp, f.eval hx, f.eval hy]
  rw [Sem.run_bind]
  have e3 : (eqGuard .neq t x y (.iface tv v) .nilIface).run P w = .ok () w := by simp [eqGuard]
  rw [Sem.run_bind, e3, Result.andThen_ok]
  have e4 : (binOp .neq t (.iface tv v) .nilIface).run P w = .ok (.bool true) w := by
    show (do pure (.bool (!(← Op.equal t (.iface tv v) .nilIface))) : Sem Value).run P w = _
    rw [Sem.run_bind]
    show ((Op.equalIn (9999 + 1) t (.iface tv v) .nilIface).run P w).andThen _ = _
    rw [e0]; rfl
  rw [e4]; rfl
theorem Y.neNil0 (hx : ev E x = some .nilIface) (ht : IfcT P t) : Yld P n o E S L (.binOp .neq t x (.const .nilIface) t') ty (.bool false) := fun a w f s _ _ _ _ => by
  obtain ⟨ms, e1⟩ := ht.e
  have e0' : ∀ d, (Op.equalIn (d + 1) t .nilIface .nilIface).run P w = .ok true w := fun d => by simp [Op.equalIn, run_underlying e1]
  have e0 := e0' 9999
  have hy : a.eval (.const .nilIface) = .nilIface := rfl
  simp only [execOp, f.eval hx, hy]
  rw [Sem.run_bind]
  have e3 : (eqGuard .neq t x (.const .nilIface) .nilIface .nilIface).run P w = .ok () w := by simp [eqGuard]
  rw [Sem.run_bind, e3, Result.andThen_ok]
  have e4 : (binOp .neq t .nilIface .nilIface).run P w = .ok (.bool false) w := by
    show (do pure (.bool (!(← Op.equal t .nilIface .nilIface))) : Sem Value).run P w = _
    rw [Sem.run_bind]
    show ((Op.equalIn (9999 + 1) t .nilIface .nilIface).run P w).andThen _ = _
    rw [e0]; rfl
  rw [e4]; rfl
theorem Y.taOne {v : Value} (hx : ev E x = some (.iface t' v)) (ht : StructT P t') : Yld P n o E S L (.typeAssert x t t' false) ty v := fun a w f s _ _ _ _ => by
  obtain ⟨fs, e⟩ := ht.e
  simp [execOp, f.eval hx, Instr.typeAssert, run_underlying e]
end
end Go.Ch
end
section
/- The facts on types and functions of the translation. -/
set_option linter.unusedVariables false
namespace Go.Ch
open Go.Proofs
theorem arr183 : ArrT Tryz.prog 183 64 1 := ⟨⟨_, Tryz.underlying183, by kernel_rfl⟩⟩
theorem arr203 : ArrT Tryz.prog 203 8 1 := ⟨⟨_, Tryz.underlying203, by kernel_rfl⟩⟩
theorem arr23 : ArrT Tryz.prog 23 32 1 := ⟨⟨_, Tryz.underlying23, by kernel_rfl⟩⟩
theorem byt102 : BytesT Tryz.prog 102 := ⟨⟨_, Tryz.underlying102, Tryz.underlying5⟩⟩
theorem el102 : ElT Tryz.prog 102 UInt8 := ElT.of (u8V 0) Tryz.underlying102 (by kernel_rfl) (by kernel_rfl) (by kernel_rfl) (by kernel_rfl)
theorem el32 : ElT Tryz.prog 32 Item := ElT.of (aggV [sV (.int .i64 0), sL zL, sL zL, sV (.int .i64 0)]) Tryz.underlying32 (by kernel_rfl) (by kernel_rfl) (by kernel_rfl) (by kernel_rfl)
theorem el35 : ElT Tryz.prog 35 Leaf := ElT.of (aggV [sL zL, sL zL, sV (.int .i64 0)]) Tryz.underlying35 (by kernel_rfl) (by kernel_rfl) (by kernel_rfl) (by kernel_rfl)
theorem el46 : ElT Tryz.prog 46 Item := ElT.of (aggV [sV (.int .i64 0), sL zL, sL zL, sV (.int .i64 0)]) Tryz.underlying46 (by kernel_rfl) (by kernel_rfl) (by kernel_rfl) (by kernel_rfl)
theorem el55 : ElT Tryz.prog 55 Nd := ElT.of (ndV Nd.nil) Tryz.underlying55 (by kernel_rfl) (by kernel_rfl) (by kernel_rfl) (by kernel_rfl)
theorem el58 : ElT Tryz.prog 58 Str := ElT.of (strV ([] : Str)) Tryz.underlying58 (by kernel_rfl) (by kernel_rfl) (by kernel_rfl) (by kernel_rfl)
theorem elz102 : ElZ Tryz.prog 102 UInt8 := ElZ.of (u8V 0) Tryz.underlying102 (by kernel_rfl) (by kernel_rfl) (by kernel_rfl) (by kernel_rfl)
theorem eqt23 : EqT Tryz.prog 23 := ⟨by kernel_rfl⟩
theorem eqt27 : EqT Tryz.prog 27 := ⟨by kernel_rfl⟩
theorem eqt41 : EqT Tryz.prog 41 := ⟨by kernel_rfl⟩
theorem eqt45 : EqT Tryz.prog 45 := ⟨by kernel_rfl⟩
theorem extc201 : ExtCmp Tryz.prog 201 := ⟨⟨_, Tryz.func201, by kernel_rfl, by kernel_rfl, by kernel_rfl, rfl⟩⟩
theorem fb10 : FnB Tryz.prog 10 := ⟨⟨_, Tryz.func10, by kernel_rfl, by kernel_rfl⟩⟩
theorem fb100 : FnB Tryz.prog 100 := ⟨⟨_, Tryz.func100, by kernel_rfl, by kernel_rfl⟩⟩
theorem fb101 : FnB Tryz.prog 101 := ⟨⟨_, Tryz.func101, by kernel_rfl, by kernel_rfl⟩⟩
theorem fb102 : FnB Tryz.prog 102 := ⟨⟨_, Tryz.func102, by kernel_rfl, by kernel_rfl⟩⟩
theorem fb103 : FnB Tryz.prog 103 := ⟨⟨_, Tryz.func103, by kernel_rfl, by kernel_rfl⟩⟩
theorem fb104 : FnB Tryz.prog 104 := ⟨⟨_, Tryz.func104, by kernel_rfl, by kernel_rfl⟩⟩
theorem fb105 : FnB Tryz.prog 105 := ⟨⟨_, Tryz.func105, by kernel_rfl, by kernel_rfl⟩⟩
theorem fb106 : FnB Tryz.prog 106 := ⟨⟨_, Tryz.func106, by kernel_rfl, by kernel_rfl⟩⟩
theorem fb107 : FnB Tryz.prog 107 := ⟨⟨_, Tryz.func107, by kernel_rfl, by kernel_rfl⟩⟩
theorem fb108 : FnB Tryz.prog 108 := ⟨⟨_, Tryz.func108, by kernel_rfl, by kernel_rfl⟩⟩
theorem fb109 : FnB Tryz.prog 109 := ⟨⟨_, Tryz.func109, by kernel_rfl, by kernel_rfl⟩⟩
theorem fb110 : FnB Tryz.prog 110 := ⟨⟨_, Tryz.func110, by kernel_rfl, by kernel_rfl⟩⟩
theorem fb111 : FnB Tryz.prog 111 := ⟨⟨_, Tryz.func111, by kernel_rfl, by kernel_rfl⟩⟩
theorem fb112 : FnB Tryz.prog 112 := ⟨⟨_, Tryz.func112, by kernel_rfl, by kernel_rfl⟩⟩
theorem fb118 : FnB Tryz.prog 118 := ⟨⟨_, Tryz.func118, by kernel_rfl, by kernel_rfl⟩⟩
theorem fb119 : FnB Tryz.prog 119 := ⟨⟨_, Tryz.func119, by kernel_rfl, by kernel_rfl⟩⟩
theorem fb120 : FnB Tryz.prog 120 := ⟨⟨_, Tryz.func120, by kernel_rfl, by kernel_rfl⟩⟩
theorem fb121 : FnB Tryz.prog 121 := ⟨⟨_, Tryz.func121, by kernel_rfl, by kernel_rfl⟩⟩
theorem fb122 : FnB Tryz.prog 122 := ⟨⟨_, Tryz.func122, by kernel_rfl, by kernel_rfl⟩⟩
theorem fb123 : FnB Tryz.prog 123 := ⟨⟨_, Tryz.func123, by kernel_rfl, by kernel_rfl⟩⟩
theorem fb124 : FnB Tryz.prog 124 := ⟨⟨_, Tryz.func124, by kernel_rfl, by kernel_rfl⟩⟩
theorem fb125 : FnB Tryz.prog 125 := ⟨⟨_, Tryz.func125, by kernel_rfl, by kernel_rfl⟩⟩
theorem fb126 : FnB Tryz.prog 126 := ⟨⟨_, Tryz.func126, by kernel_rfl, by kernel_rfl⟩⟩
theorem fb127 : FnB Tryz.prog 127 := ⟨⟨_, Tryz.func127, by kernel_rfl, by kernel_rfl⟩⟩
theorem fb128 : FnB Tryz.prog 128 := ⟨⟨_, Tryz.func128, by kernel_rfl, by kernel_rfl⟩⟩
theorem fb132 : FnB Tryz.prog 132 := ⟨⟨_, Tryz.func132, by kernel_rfl, by kernel_rfl⟩⟩
theorem fb135 : FnB Tryz.prog 135 := ⟨⟨_, Tryz.func135, by kernel_rfl, by kernel_rfl⟩⟩
theorem fb137 : FnB Tryz.prog 137 := ⟨⟨_, Tryz.func137, by kernel_rfl, by kernel_rfl⟩⟩
theorem fb138 : FnB Tryz.prog 138 := ⟨⟨_, Tryz.func138, by kernel_rfl, by kernel_rfl⟩⟩
theorem fb139 : FnB Tryz.prog 139 := ⟨⟨_, Tryz.func139, by kernel_rfl, by kernel_rfl⟩⟩
theorem fb14 : FnB Tryz.prog 14 := ⟨⟨_, Tryz.func14, by kernel_rfl, by kernel_rfl⟩⟩
theorem fb140 : FnB Tryz.prog 140 := ⟨⟨_, Tryz.func140, by kernel_rfl, by kernel_rfl⟩⟩
theorem fb141 : FnB Tryz.prog 141 := ⟨⟨_, Tryz.func141, by kernel_rfl, by kernel_rfl⟩⟩
theorem fb142 : FnB Tryz.prog 142 := ⟨⟨_, Tryz.func142, by kernel_rfl, by kernel_rfl⟩⟩
theorem fb143 : FnB Tryz.prog 143 := ⟨⟨_, Tryz.func143, by kernel_rfl, by kernel_rfl⟩⟩
theorem fb144 : FnB Tryz.prog 144 := ⟨⟨_, Tryz.func144, by kernel_rfl, by kernel_rfl⟩⟩
theorem fb165 : FnB Tryz.prog 165 := ⟨⟨_, Tryz.func165, by kernel_rfl, by kernel_rfl⟩⟩
theorem fb166 : FnB Tryz.prog 166 := ⟨⟨_, Tryz.func166, by kernel_rfl, by kernel_rfl⟩⟩
theorem fb167 : FnB Tryz.prog 167 := ⟨⟨_, Tryz.func167, by kernel_rfl, by kernel_rfl⟩⟩
theorem fb168 : FnB Tryz.prog 168 := ⟨⟨_, Tryz.func168, by kernel_rfl, by kernel_rfl⟩⟩
theorem fb169 : FnB Tryz.prog 169 := ⟨⟨_, Tryz.func169, by kernel_rfl, by kernel_rfl⟩⟩
theorem fb170 : FnB Tryz.prog 170 := ⟨⟨_, Tryz.func170, by kernel_rfl, by kernel_rfl⟩⟩
theorem fb171 : FnB Tryz.prog 171 := ⟨⟨_, Tryz.func171, by kernel_rfl, by kernel_rfl⟩⟩
theorem fb172 : FnB Tryz.prog 172 := ⟨⟨_, Tryz.func172, by kernel_rfl, by kernel_rfl⟩⟩
theorem fb173 : FnB Tryz.prog 173 := ⟨⟨_, Tryz.func173, by kernel_rfl, by kernel_rfl⟩⟩
theorem fb174 : FnB Tryz.prog 174 := ⟨⟨_, Tryz.func174, by kernel_rfl, by kernel_rfl⟩⟩
theorem fb175 : FnB Tryz.prog 175 := ⟨⟨_, Tryz.func175, by kernel_rfl, by kernel_rfl⟩⟩
theorem fb176 : FnB Tryz.prog 176 := ⟨⟨_, Tryz.func176, by kernel_rfl, by kernel_rfl⟩⟩
theorem fb177 : FnB Tryz.prog 177 := ⟨⟨_, Tryz.func177, by kernel_rfl, by kernel_rfl⟩⟩
theorem fb178 : FnB Tryz.prog 178 := ⟨⟨_, Tryz.func178, by kernel_rfl, by kernel_rfl⟩⟩
theorem fb179 : FnB Tryz.prog 179 := ⟨⟨_, Tryz.func179, by kernel_rfl, by kernel_rfl⟩⟩
theorem fb18 : FnB Tryz.prog 18 := ⟨⟨_, Tryz.func18, by kernel_rfl, by kernel_rfl⟩⟩
theorem fb180 : FnB Tryz.prog 180 := ⟨⟨_, Tryz.func180, by kernel_rfl, by kernel_rfl⟩⟩
theorem fb181 : FnB Tryz.prog 181 := ⟨⟨_, Tryz.func181, by kernel_rfl, by kernel_rfl⟩⟩
theorem fb182 : FnB Tryz.prog 182 := ⟨⟨_, Tryz.func182, by kernel_rfl, by kernel_rfl⟩⟩
theorem fb183 : FnB Tryz.prog 183 := ⟨⟨_, Tryz.func183, by kernel_rfl, by kernel_rfl⟩⟩
theorem fb184 : FnB Tryz.prog 184 := ⟨⟨_, Tryz.func184, by kernel_rfl, by kernel_rfl⟩⟩
theorem fb186 : FnB Tryz.prog 186 := ⟨⟨_, Tryz.func186, by kernel_rfl, by kernel_rfl⟩⟩
theorem fb187 : FnB Tryz.prog 187 := ⟨⟨_, Tryz.func187, by kernel_rfl, by kernel_rfl⟩⟩
theorem fb188 : FnB Tryz.prog 188 := ⟨⟨_, Tryz.func188, by kernel_rfl, by kernel_rfl⟩⟩
theorem fb189 : FnB Tryz.prog 189 := ⟨⟨_, Tryz.func189, by kernel_rfl, by kernel_rfl⟩⟩
theorem fb199 : FnB Tryz.prog 199 := ⟨⟨_, Tryz.func199, by kernel_rfl, by kernel_rfl⟩⟩
theorem fb202 : FnB Tryz.prog 202 := ⟨⟨_, Tryz.func202, by kernel_rfl, by kernel_rfl⟩⟩
theorem fb203 : FnB Tryz.prog 203 := ⟨⟨_, Tryz.func203, by kernel_rfl, by kernel_rfl⟩⟩
theorem fb207 : FnB Tryz.prog 207 := ⟨⟨_, Tryz.func207, by kernel_rfl, by kernel_rfl⟩⟩
theorem fb32 : FnB Tryz.prog 32 := ⟨⟨_, Tryz.func32, by kernel_rfl, by kernel_rfl⟩⟩
theorem fb33 : FnB Tryz.prog 33 := ⟨⟨_, Tryz.func33, by kernel_rfl, by kernel_rfl⟩⟩
theorem fb34 : FnB Tryz.prog 34 := ⟨⟨_, Tryz.func34, by kernel_rfl, by kernel_rfl⟩⟩
theorem fb35 : FnB Tryz.prog 35 := ⟨⟨_, Tryz.func35, by kernel_rfl, by kernel_rfl⟩⟩
theorem fb36 : FnB Tryz.prog 36 := ⟨⟨_, Tryz.func36, by kernel_rfl, by kernel_rfl⟩⟩
theorem fb37 : FnB Tryz.prog 37 := ⟨⟨_, Tryz.func37, by kernel_rfl, by kernel_rfl⟩⟩
theorem fb38 : FnB Tryz.prog 38 := ⟨⟨_, Tryz.func38, by kernel_rfl, by kernel_rfl⟩⟩
theorem fb40 : FnB Tryz.prog 40 := ⟨⟨_, Tryz.func40, by kernel_rfl, by kernel_rfl⟩⟩
theorem fb41 : FnB Tryz.prog 41 := ⟨⟨_, Tryz.func41, by kernel_rfl, by kernel_rfl⟩⟩
theorem fb42 : FnB Tryz.prog 42 := ⟨⟨_, Tryz.func42, by kernel_rfl, by kernel_rfl⟩⟩
theorem fb43 : FnB Tryz.prog 43 := ⟨⟨_, Tryz.func43, by kernel_rfl, by kernel_rfl⟩⟩
theorem fb44 : FnB Tryz.prog 44 := ⟨⟨_, Tryz.func44, by kernel_rfl, by kernel_rfl⟩⟩
theorem fb45 : FnB Tryz.prog 45 := ⟨⟨_, Tryz.func45, by kernel_rfl, by kernel_rfl⟩⟩
theorem fb46 : FnB Tryz.prog 46 := ⟨⟨_, Tryz.func46, by kernel_rfl, by kernel_rfl⟩⟩
theorem fb47 : FnB Tryz.prog 47 := ⟨⟨_, Tryz.func47, by kernel_rfl, by kernel_rfl⟩⟩
theorem fb48 : FnB Tryz.prog 48 := ⟨⟨_, Tryz.func48, by kernel_rfl, by kernel_rfl⟩⟩
theorem fb52 : FnB Tryz.prog 52 := ⟨⟨_, Tryz.func52, by kernel_rfl, by kernel_rfl⟩⟩
theorem fb53 : FnB Tryz.prog 53 := ⟨⟨_, Tryz.func53, by kernel_rfl, by kernel_rfl⟩⟩
theorem fb54 : FnB Tryz.prog 54 := ⟨⟨_, Tryz.func54, by kernel_rfl, by kernel_rfl⟩⟩
theorem fb55 : FnB Tryz.prog 55 := ⟨⟨_, Tryz.func55, by kernel_rfl, by kernel_rfl⟩⟩
theorem fb58 : FnB Tryz.prog 58 := ⟨⟨_, Tryz.func58, by kernel_rfl, by kernel_rfl⟩⟩
theorem fb6 : FnB Tryz.prog 6 := ⟨⟨_, Tryz.func6, by kernel_rfl, by kernel_rfl⟩⟩
theorem fb62 : FnB Tryz.prog 62 := ⟨⟨_, Tryz.func62, by kernel_rfl, by kernel_rfl⟩⟩
theorem fb63 : FnB Tryz.prog 63 := ⟨⟨_, Tryz.func63, by kernel_rfl, by kernel_rfl⟩⟩
theorem fb64 : FnB Tryz.prog 64 := ⟨⟨_, Tryz.func64, by kernel_rfl, by kernel_rfl⟩⟩
theorem fb65 : FnB Tryz.prog 65 := ⟨⟨_, Tryz.func65, by kernel_rfl, by kernel_rfl⟩⟩
theorem fb66 : FnB Tryz.prog 66 := ⟨⟨_, Tryz.func66, by kernel_rfl, by kernel_rfl⟩⟩
theorem fb67 : FnB Tryz.prog 67 := ⟨⟨_, Tryz.func67, by kernel_rfl, by kernel_rfl⟩⟩
theorem fb68 : FnB Tryz.prog 68 := ⟨⟨_, Tryz.func68, by kernel_rfl, by kernel_rfl⟩⟩
theorem fb8 : FnB Tryz.prog 8 := ⟨⟨_, Tryz.func8, by kernel_rfl, by kernel_rfl⟩⟩
theorem fb85 : FnB Tryz.prog 85 := ⟨⟨_, Tryz.func85, by kernel_rfl, by kernel_rfl⟩⟩
theorem fb86 : FnB Tryz.prog 86 := ⟨⟨_, Tryz.func86, by kernel_rfl, by kernel_rfl⟩⟩
theorem fb87 : FnB Tryz.prog 87 := ⟨⟨_, Tryz.func87, by kernel_rfl, by kernel_rfl⟩⟩
theorem fb88 : FnB Tryz.prog 88 := ⟨⟨_, Tryz.func88, by kernel_rfl, by kernel_rfl⟩⟩
theorem fb89 : FnB Tryz.prog 89 := ⟨⟨_, Tryz.func89, by kernel_rfl, by kernel_rfl⟩⟩
theorem fb90 : FnB Tryz.prog 90 := ⟨⟨_, Tryz.func90, by kernel_rfl, by kernel_rfl⟩⟩
theorem fb91 : FnB Tryz.prog 91 := ⟨⟨_, Tryz.func91, by kernel_rfl, by kernel_rfl⟩⟩
theorem fb92 : FnB Tryz.prog 92 := ⟨⟨_, Tryz.func92, by kernel_rfl, by kernel_rfl⟩⟩
theorem fb93 : FnB Tryz.prog 93 := ⟨⟨_, Tryz.func93, by kernel_rfl, by kernel_rfl⟩⟩
theorem fb94 : FnB Tryz.prog 94 := ⟨⟨_, Tryz.func94, by kernel_rfl, by kernel_rfl⟩⟩
theorem fb95 : FnB Tryz.prog 95 := ⟨⟨_, Tryz.func95, by kernel_rfl, by kernel_rfl⟩⟩
theorem fb96 : FnB Tryz.prog 96 := ⟨⟨_, Tryz.func96, by kernel_rfl, by kernel_rfl⟩⟩
theorem fb97 : FnB Tryz.prog 97 := ⟨⟨_, Tryz.func97, by kernel_rfl, by kernel_rfl⟩⟩
theorem fb98 : FnB Tryz.prog 98 := ⟨⟨_, Tryz.func98, by kernel_rfl, by kernel_rfl⟩⟩
theorem fb99 : FnB Tryz.prog 99 := ⟨⟨_, Tryz.func99, by kernel_rfl, by kernel_rfl⟩⟩
theorem fld155_0 : FieldT Tryz.prog 155 0 0 := ⟨⟨_, _, Tryz.underlying155, rfl, rfl, 1, by kernel_rfl, by decide⟩⟩
theorem fld155_1 : FieldT Tryz.prog 155 1 1 := ⟨⟨_, _, Tryz.underlying155, rfl, rfl, 1, by kernel_rfl, by decide⟩⟩
theorem fld155_2 : FieldT Tryz.prog 155 2 2 := ⟨⟨_, _, Tryz.underlying155, rfl, rfl, 1, by kernel_rfl, by decide⟩⟩
theorem fld168_0 : FieldT Tryz.prog 168 0 0 := ⟨⟨_, _, Tryz.underlying168, rfl, rfl, 1, by kernel_rfl, by decide⟩⟩
theorem fld168_1 : FieldT Tryz.prog 168 1 1 := ⟨⟨_, _, Tryz.underlying168, rfl, rfl, 1, by kernel_rfl, by decide⟩⟩
theorem fld223_0 : FieldT Tryz.prog 223 0 0 := ⟨⟨_, _, Tryz.underlying223, rfl, rfl, 1, by kernel_rfl, by decide⟩⟩
theorem fld223_1 : FieldT Tryz.prog 223 1 1 := ⟨⟨_, _, Tryz.underlying223, rfl, rfl, 1, by kernel_rfl, by decide⟩⟩
theorem fld223_2 : FieldT Tryz.prog 223 2 2 := ⟨⟨_, _, Tryz.underlying223, rfl, rfl, 1, by kernel_rfl, by decide⟩⟩
theorem fld25_0 : FieldT Tryz.prog 25 0 0 := ⟨⟨_, _, Tryz.underlying25, rfl, rfl, 32, by kernel_rfl, by decide⟩⟩
theorem fld25_1 : FieldT Tryz.prog 25 1 32 := ⟨⟨_, _, Tryz.underlying25, rfl, rfl, 32, by kernel_rfl, by decide⟩⟩
theorem fld25_2 : FieldT Tryz.prog 25 2 64 := ⟨⟨_, _, Tryz.underlying25, rfl, rfl, 1, by kernel_rfl, by decide⟩⟩
theorem fld27_0 : FieldT Tryz.prog 27 0 0 := ⟨⟨_, _, Tryz.underlying27, rfl, rfl, 1, by kernel_rfl, by decide⟩⟩
theorem fld27_1 : FieldT Tryz.prog 27 1 1 := ⟨⟨_, _, Tryz.underlying27, rfl, rfl, 32, by kernel_rfl, by decide⟩⟩
theorem fld29_0 : FieldT Tryz.prog 29 0 0 := ⟨⟨_, _, Tryz.underlying29, rfl, rfl, 33, by kernel_rfl, by decide⟩⟩
theorem fld29_1 : FieldT Tryz.prog 29 1 33 := ⟨⟨_, _, Tryz.underlying29, rfl, rfl, 32, by kernel_rfl, by decide⟩⟩
theorem fld29_2 : FieldT Tryz.prog 29 2 65 := ⟨⟨_, _, Tryz.underlying29, rfl, rfl, 1, by kernel_rfl, by decide⟩⟩
theorem fld31_0 : FieldT Tryz.prog 31 0 0 := ⟨⟨_, _, Tryz.underlying31, rfl, rfl, 66, by kernel_rfl, by decide⟩⟩
theorem fld31_1 : FieldT Tryz.prog 31 1 66 := ⟨⟨_, _, Tryz.underlying31, rfl, rfl, 66, by kernel_rfl, by decide⟩⟩
theorem fld34_0 : FieldT Tryz.prog 34 0 0 := ⟨⟨_, _, Tryz.underlying34, rfl, rfl, 1, by kernel_rfl, by decide⟩⟩
theorem fld34_1 : FieldT Tryz.prog 34 1 1 := ⟨⟨_, _, Tryz.underlying34, rfl, rfl, 65, by kernel_rfl, by decide⟩⟩
theorem fld34_2 : FieldT Tryz.prog 34 2 66 := ⟨⟨_, _, Tryz.underlying34, rfl, rfl, 132, by kernel_rfl, by decide⟩⟩
theorem fld34_3 : FieldT Tryz.prog 34 3 198 := ⟨⟨_, _, Tryz.underlying34, rfl, rfl, 1, by kernel_rfl, by decide⟩⟩
theorem fld41_0 : FieldT Tryz.prog 41 0 0 := ⟨⟨_, _, Tryz.underlying41, rfl, rfl, 32, by kernel_rfl, by decide⟩⟩
theorem fld41_1 : FieldT Tryz.prog 41 1 32 := ⟨⟨_, _, Tryz.underlying41, rfl, rfl, 32, by kernel_rfl, by decide⟩⟩
theorem fld41_2 : FieldT Tryz.prog 41 2 64 := ⟨⟨_, _, Tryz.underlying41, rfl, rfl, 1, by kernel_rfl, by decide⟩⟩
theorem fld45_0 : FieldT Tryz.prog 45 0 0 := ⟨⟨_, _, Tryz.underlying45, rfl, rfl, 1, by kernel_rfl, by decide⟩⟩
theorem fld45_1 : FieldT Tryz.prog 45 1 1 := ⟨⟨_, _, Tryz.underlying45, rfl, rfl, 32, by kernel_rfl, by decide⟩⟩
theorem fld45_2 : FieldT Tryz.prog 45 2 33 := ⟨⟨_, _, Tryz.underlying45, rfl, rfl, 32, by kernel_rfl, by decide⟩⟩
theorem fld45_3 : FieldT Tryz.prog 45 3 65 := ⟨⟨_, _, Tryz.underlying45, rfl, rfl, 1, by kernel_rfl, by decide⟩⟩
theorem fld48_0 : FieldT Tryz.prog 48 0 0 := ⟨⟨_, _, Tryz.underlying48, rfl, rfl, 1, by kernel_rfl, by decide⟩⟩
theorem fld48_1 : FieldT Tryz.prog 48 1 1 := ⟨⟨_, _, Tryz.underlying48, rfl, rfl, 65, by kernel_rfl, by decide⟩⟩
theorem fld48_2 : FieldT Tryz.prog 48 2 66 := ⟨⟨_, _, Tryz.underlying48, rfl, rfl, 66, by kernel_rfl, by decide⟩⟩
theorem fld48_3 : FieldT Tryz.prog 48 3 132 := ⟨⟨_, _, Tryz.underlying48, rfl, rfl, 66, by kernel_rfl, by decide⟩⟩
theorem fld48_4 : FieldT Tryz.prog 48 4 198 := ⟨⟨_, _, Tryz.underlying48, rfl, rfl, 1, by kernel_rfl, by decide⟩⟩
theorem ifc63 : IfcT Tryz.prog 63 := ⟨⟨_, Tryz.underlying63⟩⟩
theorem int180 : IntT Tryz.prog 180 .u32 := ⟨Tryz.underlying180⟩
theorem int204 : IntT Tryz.prog 204 .u64 := ⟨Tryz.underlying204⟩
theorem int226 : IntT Tryz.prog 226 .u64 := ⟨Tryz.underlying226⟩
theorem int3 : IntT Tryz.prog 3 .i64 := ⟨Tryz.underlying3⟩
theorem int5 : IntT Tryz.prog 5 .u8 := ⟨Tryz.underlying5⟩
theorem meth25_Item : MethT Tryz.prog 25 "Item" 53 := ⟨fun _ _ => by kernel_rfl⟩
theorem meth31_Item : MethT Tryz.prog 31 "Item" 46 := ⟨fun _ _ => by kernel_rfl⟩
theorem mixed : Tryz.prog.follows .mixedOrders = true := by kernel_rfl
theorem nh27 : Tryz.prog.stoodInHeld 27 = false := by kernel_rfl
theorem nh41 : Tryz.prog.stoodInHeld 41 = false := by kernel_rfl
theorem nh45 : Tryz.prog.stoodInHeld 45 = false := by kernel_rfl
theorem one102 : OneT Tryz.prog 102 := ⟨⟨_, Tryz.underlying102, rfl⟩, by kernel_rfl⟩
theorem one180 : OneT Tryz.prog 180 := ⟨⟨_, Tryz.underlying180, rfl⟩, by kernel_rfl⟩
theorem one3 : OneT Tryz.prog 3 := ⟨⟨_, Tryz.underlying3, rfl⟩, by kernel_rfl⟩
theorem one32 : OneT Tryz.prog 32 := ⟨⟨_, Tryz.underlying32, rfl⟩, by kernel_rfl⟩
theorem one38 : OneT Tryz.prog 38 := ⟨⟨_, Tryz.underlying38, rfl⟩, by kernel_rfl⟩
theorem one46 : OneT Tryz.prog 46 := ⟨⟨_, Tryz.underlying46, rfl⟩, by kernel_rfl⟩
theorem one5 : OneT Tryz.prog 5 := ⟨⟨_, Tryz.underlying5, rfl⟩, by kernel_rfl⟩
theorem one63 : OneT Tryz.prog 63 := ⟨⟨_, Tryz.underlying63, rfl⟩, by kernel_rfl⟩
theorem one9 : OneT Tryz.prog 9 := ⟨⟨_, Tryz.underlying9, rfl⟩, by kernel_rfl⟩
theorem row155 : RowT Tryz.prog 155 3 := ⟨⟨_, Tryz.underlying155, rfl⟩, by kernel_rfl⟩
theorem row183 : RowT Tryz.prog 183 64 := ⟨⟨_, Tryz.underlying183, rfl⟩, by kernel_rfl⟩
theorem row203 : RowT Tryz.prog 203 8 := ⟨⟨_, Tryz.underlying203, rfl⟩, by kernel_rfl⟩
theorem row23 : RowT Tryz.prog 23 32 := ⟨⟨_, Tryz.underlying23, rfl⟩, by kernel_rfl⟩
theorem row25 : RowT Tryz.prog 25 65 := ⟨⟨_, Tryz.underlying25, rfl⟩, by kernel_rfl⟩
theorem row27 : RowT Tryz.prog 27 33 := ⟨⟨_, Tryz.underlying27, rfl⟩, by kernel_rfl⟩
theorem row29 : RowT Tryz.prog 29 66 := ⟨⟨_, Tryz.underlying29, rfl⟩, by kernel_rfl⟩
theorem row31 : RowT Tryz.prog 31 132 := ⟨⟨_, Tryz.underlying31, rfl⟩, by kernel_rfl⟩
theorem row34 : RowT Tryz.prog 34 199 := ⟨⟨_, Tryz.underlying34, rfl⟩, by kernel_rfl⟩
theorem row41 : RowT Tryz.prog 41 65 := ⟨⟨_, Tryz.underlying41, rfl⟩, by kernel_rfl⟩
theorem row45 : RowT Tryz.prog 45 66 := ⟨⟨_, Tryz.underlying45, rfl⟩, by kernel_rfl⟩
theorem row48 : RowT Tryz.prog 48 199 := ⟨⟨_, Tryz.underlying48, rfl⟩, by kernel_rfl⟩
theorem size102 : (Tryz.prog.info? 102).map (·.size) = some 1 := by kernel_rfl
theorem size155 : (Tryz.prog.info? 155).map (·.size) = some 3 := by kernel_rfl
theorem size180 : (Tryz.prog.info? 180).map (·.size) = some 1 := by kernel_rfl
theorem size183 : (Tryz.prog.info? 183).map (·.size) = some 64 := by kernel_rfl
theorem size203 : (Tryz.prog.info? 203).map (·.size) = some 8 := by kernel_rfl
theorem size23 : (Tryz.prog.info? 23).map (·.size) = some 32 := by kernel_rfl
theorem size25 : (Tryz.prog.info? 25).map (·.size) = some 65 := by kernel_rfl
theorem size27 : (Tryz.prog.info? 27).map (·.size) = some 33 := by kernel_rfl
theorem size29 : (Tryz.prog.info? 29).map (·.size) = some 66 := by kernel_rfl
theorem size3 : (Tryz.prog.info? 3).map (·.size) = some 1 := by kernel_rfl
theorem size31 : (Tryz.prog.info? 31).map (·.size) = some 132 := by kernel_rfl
theorem size32 : (Tryz.prog.info? 32).map (·.size) = some 1 := by kernel_rfl
theorem size34 : (Tryz.prog.info? 34).map (·.size) = some 199 := by kernel_rfl
theorem size38 : (Tryz.prog.info? 38).map (·.size) = some 1 := by kernel_rfl
theorem size41 : (Tryz.prog.info? 41).map (·.size) = some 65 := by kernel_rfl
theorem size45 : (Tryz.prog.info? 45).map (·.size) = some 66 := by kernel_rfl
theorem size46 : (Tryz.prog.info? 46).map (·.size) = some 1 := by kernel_rfl
theorem size48 : (Tryz.prog.info? 48).map (·.size) = some 199 := by kernel_rfl
theorem size5 : (Tryz.prog.info? 5).map (·.size) = some 1 := by kernel_rfl
theorem slc102 : SlcT Tryz.prog 102 1 := ⟨⟨_, Tryz.underlying102, by kernel_rfl⟩⟩
theorem slc32 : SlcT Tryz.prog 32 66 := ⟨⟨_, Tryz.underlying32, by kernel_rfl⟩⟩
theorem slc35 : SlcT Tryz.prog 35 65 := ⟨⟨_, Tryz.underlying35, by kernel_rfl⟩⟩
theorem slc46 : SlcT Tryz.prog 46 66 := ⟨⟨_, Tryz.underlying46, by kernel_rfl⟩⟩
theorem slc55 : SlcT Tryz.prog 55 1 := ⟨⟨_, Tryz.underlying55, by kernel_rfl⟩⟩
theorem slc58 : SlcT Tryz.prog 58 1 := ⟨⟨_, Tryz.underlying58, by kernel_rfl⟩⟩
theorem src102 : SrcT Tryz.prog 102 := .inl ⟨_, Tryz.underlying102⟩
theorem src32 : SrcT Tryz.prog 32 := .inl ⟨_, Tryz.underlying32⟩
theorem src35 : SrcT Tryz.prog 35 := .inl ⟨_, Tryz.underlying35⟩
theorem src46 : SrcT Tryz.prog 46 := .inl ⟨_, Tryz.underlying46⟩
theorem src55 : SrcT Tryz.prog 55 := .inl ⟨_, Tryz.underlying55⟩
theorem src9 : SrcT Tryz.prog 9 := .inr Tryz.underlying9
theorem strt155 : StrT Tryz.prog 155 [(0, 1), (1, 1), (2, 1)] := ⟨⟨_, Tryz.underlying155, fun w => by kernel_rfl⟩⟩
theorem strt223 : StrT Tryz.prog 223 [(0, 1), (1, 1), (2, 1)] := ⟨⟨_, Tryz.underlying223, fun w => by kernel_rfl⟩⟩
theorem strt25 : StrT Tryz.prog 25 [(0, 32), (32, 32), (64, 1)] := ⟨⟨_, Tryz.underlying25, fun w => by kernel_rfl⟩⟩
theorem strt27 : StrT Tryz.prog 27 [(0, 1), (1, 32)] := ⟨⟨_, Tryz.underlying27, fun w => by kernel_rfl⟩⟩
theorem strt29 : StrT Tryz.prog 29 [(0, 33), (33, 32), (65, 1)] := ⟨⟨_, Tryz.underlying29, fun w => by kernel_rfl⟩⟩
theorem strt31 : StrT Tryz.prog 31 [(0, 66), (66, 66)] := ⟨⟨_, Tryz.underlying31, fun w => by kernel_rfl⟩⟩
theorem strt34 : StrT Tryz.prog 34 [(0, 1), (1, 65), (66, 132), (198, 1)] := ⟨⟨_, Tryz.underlying34, fun w => by kernel_rfl⟩⟩
theorem strt41 : StrT Tryz.prog 41 [(0, 32), (32, 32), (64, 1)] := ⟨⟨_, Tryz.underlying41, fun w => by kernel_rfl⟩⟩
theorem strt45 : StrT Tryz.prog 45 [(0, 1), (1, 32), (33, 32), (65, 1)] := ⟨⟨_, Tryz.underlying45, fun w => by kernel_rfl⟩⟩
theorem strt48 : StrT Tryz.prog 48 [(0, 1), (1, 65), (66, 66), (132, 66), (198, 1)] := ⟨⟨_, Tryz.underlying48, fun w => by kernel_rfl⟩⟩
theorem stt25 : StructT Tryz.prog 25 := ⟨⟨_, Tryz.underlying25⟩⟩
theorem stt31 : StructT Tryz.prog 31 := ⟨⟨_, Tryz.underlying31⟩⟩
theorem sty9 : StrTy Tryz.prog 9 := ⟨Tryz.underlying9⟩
theorem zero155 : ZeroT Tryz.prog 155 [sV (strV ([] : Str)), sV (.int .i64 0), sV (.int .i64 0)] := ⟨aggV [sV (strV ([] : Str)), sV (.int .i64 0), sV (.int .i64 0)], by kernel_rfl, rfl⟩
theorem zero168 : ZeroT Tryz.prog 168 [sV (.slice none 0 0), sV (.int .i64 0)] := ⟨aggV [sV (.slice none 0 0), sV (.int .i64 0)], by kernel_rfl, rfl⟩
theorem zero183 : ZeroT Tryz.prog 183 [sU32 (Vector.replicate 64 0)] := ⟨aggV [sU32 (Vector.replicate 64 0)], by kernel_rfl, rfl⟩
theorem zero203 : ZeroT Tryz.prog 203 [sU32 (Vector.replicate 8 0)] := ⟨aggV [sU32 (Vector.replicate 8 0)], by kernel_rfl, rfl⟩
theorem zero223 : ZeroT Tryz.prog 223 [sV (strV ([] : Str)), sV (.int .i64 0), sV (.int .i64 0)] := ⟨aggV [sV (strV ([] : Str)), sV (.int .i64 0), sV (.int .i64 0)], by kernel_rfl, rfl⟩
theorem zero23 : ZeroT Tryz.prog 23 [sL zL] := ⟨aggV [sL zL], by kernel_rfl, rfl⟩
theorem zero25 : ZeroT Tryz.prog 25 [sL zL, sL zL, sV (.int .i64 0)] := ⟨aggV [sL zL, sL zL, sV (.int .i64 0)], by kernel_rfl, rfl⟩
theorem zero27 : ZeroT Tryz.prog 27 [sV (.int .i64 0), sL zL] := ⟨aggV [sV (.int .i64 0), sL zL], by kernel_rfl, rfl⟩
theorem zero29 : ZeroT Tryz.prog 29 [sV (.int .i64 0), sL zL, sL zL, sV (.int .i64 0)] := ⟨aggV [sV (.int .i64 0), sL zL, sL zL, sV (.int .i64 0)], by kernel_rfl, rfl⟩
theorem zero3 : ZeroT Tryz.prog 3 [sV (.int .i64 0)] := ⟨.int .i64 0, by kernel_rfl, rfl⟩
theorem zero31 : ZeroT Tryz.prog 31 [sV (.int .i64 0), sL zL, sL zL, sV (.int .i64 0), sV (.int .i64 0), sL zL, sL zL, sV (.int .i64 0)] := ⟨aggV [sV (.int .i64 0), sL zL, sL zL, sV (.int .i64 0), sV (.int .i64 0), sL zL, sL zL, sV (.int .i64 0)], by kernel_rfl, rfl⟩
theorem zero34 : ZeroT Tryz.prog 34 [sV (.int .i64 0), sL zL, sL zL, sV (.int .i64 0), sV (.int .i64 0), sL zL, sL zL, sV (.int .i64 0), sV (.int .i64 0), sL zL, sL zL, sV (.int .i64 0), sV (.slice none 0 0)] := ⟨aggV [sV (.int .i64 0), sL zL, sL zL, sV (.int .i64 0), sV (.int .i64 0), sL zL, sL zL, sV (.int .i64 0), sV (.int .i64 0), sL zL, sL zL, sV (.int .i64 0), sV (.slice none 0 0)], by kernel_rfl, rfl⟩
theorem zero41 : ZeroT Tryz.prog 41 [sL zL, sL zL, sV (.int .i64 0)] := ⟨aggV [sL zL, sL zL, sV (.int .i64 0)], by kernel_rfl, rfl⟩
theorem zero45 : ZeroT Tryz.prog 45 [sV (.int .i64 0), sL zL, sL zL, sV (.int .i64 0)] := ⟨aggV [sV (.int .i64 0), sL zL, sL zL, sV (.int .i64 0)], by kernel_rfl, rfl⟩
theorem zero48 : ZeroT Tryz.prog 48 [sV (.int .i64 0), sL zL, sL zL, sV (.int .i64 0), sV (.int .i64 0), sL zL, sL zL, sV (.int .i64 0), sV (.int .i64 0), sL zL, sL zL, sV (.int .i64 0), sV (.slice none 0 0)] := ⟨aggV [sV (.int .i64 0), sL zL, sL zL, sV (.int .i64 0), sV (.int .i64 0), sL zL, sL zL, sV (.int .i64 0), sV (.int .i64 0), sL zL, sL zL, sV (.int .i64 0), sV (.slice none 0 0)], by kernel_rfl, rfl⟩
theorem zv25 : (Tryz.prog.info? 25).bind (·.zero) = some (aggV [sL zL, sL zL, sV (.int .i64 0)]) := by kernel_rfl
theorem zv31 : (Tryz.prog.info? 31).bind (·.zero) = some (aggV [sV (.int .i64 0), sL zL, sL zL, sV (.int .i64 0), sV (.int .i64 0), sL zL, sL zL, sV (.int .i64 0)]) := by kernel_rfl
end Go.Ch
end
section
/- Functions of the program: what each comes to, proved. -/
set_option linter.unusedVariables false
set_option linter.unusedSimpArgs false
set_option maxRecDepth 100000
set_option maxHeartbeats 4000000
namespace Go.Ch
open Go.RowKit (wrap64)
open Go.Proofs
noncomputable section
/- chirograph/chirographlaw15.Told -/
def l15_Told  (a0 : Item) : Option Item :=
 some a0

theorem l15_Told_ok {S : Hp} (a0 : Item) {r : Item} (h : l15_Told a0 = some r) : Fn Tryz.prog 40 [aggV [sV (.int .i64 a0.len), sL a0.bits, sL a0.sum, sV (.int .i64 a0.at_)]] S (fun v S' => v = aggV [sV (.int .i64 r.len), sL r.bits, sL r.sum, sV (.int .i64 r.at_)]) := by
 unfold l15_Told at h
 refine fo [.cell 2 45] 14 Tryz.func40 Tryz.ntmps40 (fun o F Q hQ hN hret => ?_)
 refine sr (fun _ hK1 => ?_)
 refine st (OS.boxA (by decide) rfl (fun ad2 => ?_))
 refine st (OS.alloc _ (by decide) zero45 (fun ad4 => ?_))
 refine nt hK1 ?_
 refine sr (fun _ hK6 => ?_)
 refine vl (Y.fieldAddr 0 rfl fld29_0 rfl) ?_
 refine vl (Y.fieldAddr 0 rfl fld27_0 rfl) ?_
 refine lv 1 0 one3 ?_
 refine vl (Y.fieldAddr 0 rfl fld29_0 rfl) ?_
 refine vl (Y.fieldAddr 1 rfl fld27_1 rfl) ?_
 refine lb 1 1 1 [sL a0.bits] row23 ?_
 refine vl (Y.fieldAddr 33 rfl fld29_1 rfl) ?_
 refine lb 1 2 1 [sL a0.sum] row23 ?_
 refine vl (Y.fieldAddr 65 rfl fld29_2 rfl) ?_
 refine lv 1 3 one3 ?_
 refine vl (Y.buildE _ [sV (.int .i64 a0.len), sL a0.bits, sL a0.sum, sV (.int .i64 a0.at_)] strt45 zero45 rfl (.cons 0 1 [sV (.int .i64 a0.len)] rfl rfl rfl rfl rfl (.cons 1 1 [sL a0.bits] rfl (aggV_cells _) rfl rfl rfl (.cons 2 1 [sL a0.sum] rfl (aggV_cells _) rfl rfl rfl (.cons 3 1 [sV (.int .i64 a0.at_)] rfl rfl rfl rfl rfl .nil))))) ?_
 refine sf 0 4 [sV (.int .i64 a0.len), sL a0.bits, sL a0.sum, sV (.int .i64 a0.at_)] (aggV_cells _) (oI (oL (oL (oI oN)))) size45 ?_
 refine nt hK6 ?_
 refine G.ret ?_
 obtain rfl := Option.some.inj h
 exact hret _ _ _ _ 2 l0 (.cons (.row (k := 0) rfl rfl row45 (by kernel_rfl)) .nil) rfl rfl

end
end Go.Ch
end
section
/- Functions of the program: what each comes to, proved. -/
set_option linter.unusedVariables false
set_option linter.unusedSimpArgs false
set_option maxRecDepth 100000
set_option maxHeartbeats 4000000
namespace Go.Ch
open Go.RowKit (wrap64)
open Go.Proofs
noncomputable section
/- chirograph/chirographlaw16.Few -/
/- chirograph/chirographlaw16.Told -/
def l16_Told_s1 (a0 : (List Item)) (a1 : Int) : (Int × (List Item)) → Option ((Int × (List Item)) ⊕ (Int × (List Item)))
 | (x9, x10) => ((if (decide (x9 < (lenI a0))) = true then some (decide (x9 < a1)) else some false).bind fun b17 => (if b17 = true then ((req ((0 : Int) ≤ x9 ∧ x9 < lenI a0)).bind fun _ => ((l15_Told (getI a0 x9)).bind fun t29 => ((req (List.length x10 + List.length ([t29] : List Item) ≤ LIM)).bind fun _ => some (.inl ((wrap64 (x9 + (1 : Int))), (x10 ++ ([t29] : List Item))))))) else some (.inr (x9, x10))))

def l16_Told  (a0 : (List Item)) (a1 : Int) : Option (List Item) :=
 ((iter (l16_Told_s1 a0 a1) ((0 : Int), ([] : List Item))).bind fun b13 => (match b13 with | (x9, x10) => some x10))

theorem l16_Told_ok {S : Hp} (a0 : (List Item)) (a1 : Int) {va0 : Value} (qa0 : Sls S va0 a0) {r : (List Item)} (h : l16_Told a0 a1 = some r) : Fn Tryz.prog 41 [va0, .int .i64 a1] S (fun v S' => Sls S' v r) := by
 unfold l16_Told at h
 refine fo [.tmp 4] 28 Tryz.func41 Tryz.ntmps41 (fun o F Q hQ hN hret => ?_)
 refine sr (fun _ hK1 => ?_)
 refine an ?_
 refine nt hK1 ?_
 refine sr (fun _ hK2 => ?_)
 refine bs ([] : List Item) el46 (fun v3 => ?_)
 refine an ?_
 refine nt hK2 ?_
 refine G.seq (fun _ hK5 => ?_)
 refine sr (fun _ hK6 => ?_)
 refine an ?_
 refine nt hK6 ?_
 refine G.block ?_
 obtain ⟨b13, wb13, ho14⟩ := bind_some' h
 refine G.keep [6, 5, 0, 1] rfl ?_
 refine G.loopK (l16_Told_s1 a0 a1) (fun s₀ E' S' L' => match s₀ with | (x9, x10) => S.le S' ∧ ∃ (v11 : Value), E' = [(6, .int .i64 x9), (5, v11), (0, va0), (1, .int .i64 a1)] ∧ Rw v11 x10 :: F = L') b13 0 (fun E₀ S₀ L₀ => ∃ (x9 : Int) (x10 : (List Item)) (v11 : Value), S.le S₀ ∧ b13 = (x9, x10) ∧ E₀ = [(5, v11)] ∧ Rw v11 x10 :: F = L₀) wb13 ?_ ?_ ?_
 ·rintro _ S38 _ ⟨x9, x10, v11, e39, rfl, rfl, rfl⟩
  have h := ho14; clear ho14
  try dsimp only at h
  refine GX.exit_block ?_
  refine GX.then hK5 ?_
  refine sr (fun _ hK40 => ?_)
  refine mv ?_
  refine an ?_
  refine nt hK40 ?_
  refine G.ret ?_
  refine GX.shareR 0 rfl (fun S41 e42 q43 => ?_)
  obtain rfl := Option.some.inj h
  exact hret _ _ _ _ 1 (l2 e39 e42) (.cons (.tmp rfl) .nil) q43 rfl
 ·exact ⟨Hp.le_refl _, v3, rfl, rfl⟩
 rintro ⟨x9, x10⟩ _ S7 _ ⟨e8, v11, rfl, rfl⟩ out1 h hf1 K1 hK1 hx12
 rw [l16_Told_s1] at h
 replace qa0 := qa0.up e8
 refine G.seq (fun _ hK15 => ?_)
 refine sr (fun _ hK16 => ?_)
 refine mv ?_
 refine mv ?_
 refine vl (Y.lenS rfl qa0 slc32) ?_
 refine vl (Y.ltI rfl rfl) ?_
 refine mv ?_
 obtain ⟨b17, wb17, h⟩ := bind_some' h
 refine GO.joinB 4 16 (b17 = ·) (fun K19 hK19 => ?_) ?_
 ·replace h := wb17
  rcases Bool.eq_false_or_eq_true (decide (x9 < (lenI a0))) with c18 | c18
  ·replace h := ite_t c18 h
   refine gv 12 c18 (Y.move rfl) ?_
   refine gv 12 c18 (Y.move rfl) ?_
   refine gv 12 c18 (Y.ltI rfl rfl) ?_
   refine vl (Y.pickT _ c18 rfl rfl) ?_
   refine GO.nil ?_
   refine p2 (p2 (p2 ?_))
   exact hK19 _ _ l0 (Option.some.inj h).symm
  replace h := ite_f c18 h
  refine gf 12 c18 ?_
  refine gf 12 c18 ?_
  refine gf 12 c18 ?_
  refine vl (Y.pickF _ c18 rfl rfl) ?_
  refine GO.nil ?_
  refine p2 (p2 (p2 ?_))
  exact hK19 _ _ l0 (Option.some.inj h).symm
 rintro _ S20 e21 rfl
 replace qa0 := qa0.up e21
 refine nt hK16 ?_
 refine G.cond _ rfl (fun c22 => ?_) (fun c22 => ?_)
 ·replace h := ite_t c22 h
  refine sk hK15 ?_
  refine G.seq (fun _ hK23 => ?_)
  refine G.block ?_
  refine G.region ?_
  refine mv ?_
  refine mv ?_
  refine mv ?_
  obtain ⟨g24, h⟩ := req_bind h
  obtain ⟨ad25, p26, z27, q28⟩ := Sls.at qa0 g24
  refine vl (Y.idxS rfl z27 rfl slc32 g24) ?_
  refine vl (Y.loadS [sV (.int .i64 ((getI a0 x9).len)), sL ((getI a0 x9).bits), sL ((getI a0 x9).sum), sV (.int .i64 ((getI a0 x9).at_))] rfl (At.part q28 0 4 _ rfl rfl) row29 (by kernel_rfl)) ?_
  obtain ⟨t29, wt29, h⟩ := bind_some' h
  refine st (cl fb40 (l15_Told_ok (getI a0 x9) wt29) (fun v30 S31 e32 z33 => ?_))
  replace qa0 := qa0.up e32
  replace q28 := q28.up e32
  obtain rfl := z33
  refine bs ([t29] : List Item) el46 (fun v34 => ?_)
  obtain ⟨g36, h⟩ := req_bind h
  refine st (OS.append (xs := x10) (ys := ([t29] : List Item)) 1 (by decide) rfl rfl rfl (Rw.src (k := 0) rfl) el46 src46 g36 (fun v37 => ?_))
  refine an ?_
  refine GO.nil ?_
  refine GX.normal_block ?_
  refine GX.then hK23 ?_
  refine G.region ?_
  refine mv ?_
  refine vl (Y.addI rfl rfl) ?_
  refine an ?_
  refine GO.nil ?_
  obtain rfl := Option.some.inj h
  refine GX.keep [6, 5, 0, 1] rfl ?_
  refine GX.less 1 rfl ?_
  exact hK1 _ _ _ _ rfl ⟨(l2 e8 (l2 e21 e32)), v37, rfl, rfl⟩
 replace h := ite_f c22 h
 refine G.exit ?_
 refine GX.exit_then ?_
 obtain rfl := Option.some.inj h
 refine GX.keep [5] rfl ?_
 exact hx12 _ _ _ ⟨_, _, _, (l2 e8 e21), (hf1 _ rfl).symm, rfl, rfl⟩

/- chirograph/chirographlaw16.Leaves -/
end
end Go.Ch
end
section
/- Functions of the program: what each comes to, proved. -/
set_option linter.unusedVariables false
set_option linter.unusedSimpArgs false
set_option maxRecDepth 100000
set_option maxHeartbeats 4000000
namespace Go.Ch
open Go.RowKit (wrap64)
open Go.Proofs
noncomputable section
/- math/bits.RotateLeft32 -/
def bits_RotateLeft32  (a0 : UInt32) (a1 : Int) : Option UInt32 :=
 some ((hl_u32 a0 (((u64I a1) &&& 31).toNat : Int)) ||| (hr_u32 a0 ((32 - ((u64I a1) &&& 31)).toNat : Int)))

theorem bits_RotateLeft32_ok {S : Hp} (a0 : UInt32) (a1 : Int) {r : UInt32} (h : bits_RotateLeft32 a0 a1 = some r) : Fn Tryz.prog 203 [u32V a0, .int .i64 a1] S (fun v S' => v = u32V r) := by
 unfold bits_RotateLeft32 at h
 refine fo [.tmp 4] 17 Tryz.func203 Tryz.ntmps203 (fun o F Q hQ hN hret => ?_)
 refine sr (fun _ hK1 => ?_)
 refine an ?_
 refine nt hK1 ?_
 refine sr (fun _ hK2 => ?_)
 refine mv ?_
 refine vl (Y.cv_i64_u64 (a := a1) rfl int3 int226) ?_
 refine vl (Y.and_u64 (a := (u64I a1)) (b := 31) rfl rfl) ?_
 refine an ?_
 refine nt hK2 ?_
 refine sr (fun _ hK3 => ?_)
 refine mv ?_
 refine mv ?_
 refine vl (Y.shl_u32 (a := a0) (c := (((u64I a1) &&& 31).toNat : Int)) rfl rfl (Int.natCast_nonneg _)) ?_
 refine mv ?_
 refine mv ?_
 refine vl (Y.sub_u64 (a := 32) (b := ((u64I a1) &&& 31)) rfl rfl) ?_
 refine vl (Y.shr_u32 (a := a0) (c := ((32 - ((u64I a1) &&& 31)).toNat : Int)) rfl rfl (Int.natCast_nonneg _)) ?_
 refine vl (Y.or_u32 (a := (hl_u32 a0 (((u64I a1) &&& 31).toNat : Int))) (b := (hr_u32 a0 ((32 - ((u64I a1) &&& 31)).toNat : Int))) rfl rfl) ?_
 refine an ?_
 refine nt hK3 ?_
 refine G.ret ?_
 obtain rfl := Option.some.inj h
 exact hret _ _ _ _ 0 l0 (.cons (.tmp rfl) .nil) rfl rfl

end
end Go.Ch
end
section
/- Functions of the program: what each comes to, proved. -/
set_option linter.unusedVariables false
set_option linter.unusedSimpArgs false
set_option maxRecDepth 100000
set_option maxHeartbeats 4000000
namespace Go.Ch
open Go.RowKit (wrap64)
open Go.Proofs
noncomputable section
/- chirograph/sha.steps -/
def sha_steps_k0 : Vector UInt32 64 := #v[1116352408, 1899447441, 3049323471, 3921009573, 961987163, 1508970993, 2453635748, 2870763221, 3624381080, 310598401, 607225278, 1426881987, 1925078388, 2162078206, 2614888103, 3248222580, 3835390401, 4022224774, 264347078, 604807628, 770255983, 1249150122, 1555081692, 1996064986, 2554220882, 2821834349, 2952996808, 3210313671, 3336571891, 3584528711, 113926993, 338241895, 666307205, 773529912, 1294757372, 1396182291, 1695183700, 1986661051, 2177026350, 2456956037, 2730485921, 2820302411, 3259730800, 3345764771, 3516065817, 3600352804, 4094571909, 275423344, 430227734, 506948616, 659060556, 883997877, 958139571, 1322822218, 1537002063, 1747873779, 1955562222, 2024104815, 2227730452, 2361852424, 2428436474, 2756734187, 3204031479, 3329325298]

def sha_steps   : Option (Vector UInt32 64) :=
 some sha_steps_k0

theorem sha_steps_ok {S : Hp}  {r : (Vector UInt32 64)} (h : sha_steps = some r) : Fn Tryz.prog 141 [] S (fun v S' => v = aggV [sU32 r]) := by
 unfold sha_steps at h
 refine fo [.cell 0 183] 2 Tryz.func141 Tryz.ntmps141 (fun o F Q hQ hN hret => ?_)
 refine sr (fun _ hK1 => ?_)
 refine st (OS.alloc _ (by decide) zero183 (fun ad2 => ?_))
 refine nt hK1 ?_
 refine sr (fun _ hK4 => ?_)
 refine vl (Y.buildA [u32V 1116352408, u32V 1899447441, u32V 3049323471, u32V 3921009573, u32V 961987163, u32V 1508970993, u32V 2453635748, u32V 2870763221, u32V 3624381080, u32V 310598401, u32V 607225278, u32V 1426881987, u32V 1925078388, u32V 2162078206, u32V 2614888103, u32V 3248222580, u32V 3835390401, u32V 4022224774, u32V 264347078, u32V 604807628, u32V 770255983, u32V 1249150122, u32V 1555081692, u32V 1996064986, u32V 2554220882, u32V 2821834349, u32V 2952996808, u32V 3210313671, u32V 3336571891, u32V 3584528711, u32V 113926993, u32V 338241895, u32V 666307205, u32V 773529912, u32V 1294757372, u32V 1396182291, u32V 1695183700, u32V 1986661051, u32V 2177026350, u32V 2456956037, u32V 2730485921, u32V 2820302411, u32V 3259730800, u32V 3345764771, u32V 3516065817, u32V 3600352804, u32V 4094571909, u32V 275423344, u32V 430227734, u32V 506948616, u32V 659060556, u32V 883997877, u32V 958139571, u32V 1322822218, u32V 1537002063, u32V 1747873779, u32V 1955562222, u32V 2024104815, u32V 2227730452, u32V 2361852424, u32V 2428436474, u32V 2756734187, u32V 3204031479, u32V 3329325298] [sU32 sha_steps_k0] arr183 zero183 rfl (by kernel_rfl) (by kernel_rfl)) ?_
 refine sf 0 1 [sU32 sha_steps_k0] (aggV_cells _) (okS_cons (ok_sU32 _) oN) size183 ?_
 refine nt hK4 ?_
 refine G.ret ?_
 obtain rfl := Option.some.inj h
 exact hret _ _ _ _ 1 l0 (.cons (.row (k := 0) rfl rfl row183 (by kernel_rfl)) .nil) rfl rfl

/- chirograph/sha.turn -/
def sha_turn  (a0 : UInt32) (a1 : Int) : Option UInt32 :=
 ((bits_RotateLeft32 a0 (wrap64 (-a1))).bind fun t3 => some t3)

theorem sha_turn_ok {S : Hp} (a0 : UInt32) (a1 : Int) {r : UInt32} (h : sha_turn a0 a1 = some r) : Fn Tryz.prog 187 [u32V a0, .int .i64 a1] S (fun v S' => v = u32V r) := by
 unfold sha_turn at h
 refine fo [.tmp 4] 9 Tryz.func187 Tryz.ntmps187 (fun o F Q hQ hN hret => ?_)
 refine sr (fun _ hK1 => ?_)
 refine an ?_
 refine nt hK1 ?_
 refine sr (fun _ hK2 => ?_)
 refine mv ?_
 refine mv ?_
 refine vl (Y.negI rfl) ?_
 obtain ⟨t3, wt3, h⟩ := bind_some' h
 refine st (cl fb203 (bits_RotateLeft32_ok a0 (wrap64 (-a1)) wt3) (fun v4 S5 e6 z7 => ?_))
 obtain rfl := z7
 refine an ?_
 refine nt hK2 ?_
 refine G.ret ?_
 obtain rfl := Option.some.inj h
 exact hret _ _ _ _ 0 e6 (.cons (.tmp rfl) .nil) rfl rfl

/- (*chirograph/sha.state).mix -/
def sha_state_mix_s4 (x114 : (Vector UInt32 8)) : (Int × (Vector UInt32 8)) → Option ((Int × (Vector UInt32 8)) ⊕ (Int × (Vector UInt32 8)))
 | (x213, x214) => (if (decide (x213 < (8 : Int))) = true then ((req ((0 : Int) ≤ x213 ∧ x213 < (8 : Nat))).bind fun _ => ((req ((0 : Int) ≤ x213 ∧ x213 < (8 : Nat))).bind fun _ => ((req ((0 : Int) ≤ x213 ∧ x213 < (8 : Nat))).bind fun _ => some (.inl ((wrap64 (x213 + (1 : Int))), (setV x214 x213 ((getV x214 x213) + (getV x114 x213)))))))) else some (.inr (x213, x214)))

def sha_state_mix_s3 (a2 : (Vector UInt32 64)) (x46 : (Vector UInt32 64)) : (Int × (Vector UInt32 8)) → Option ((Int × (Vector UInt32 8)) ⊕ (Int × (Vector UInt32 8)))
 | (x113, x114) => (if (decide (x113 < (64 : Int))) = true then ((sha_turn (getV x114 (4 : Int)) (6 : Int)).bind fun t128 => ((sha_turn (getV x114 (4 : Int)) (11 : Int)).bind fun t134 => ((sha_turn (getV x114 (4 : Int)) (25 : Int)).bind fun t140 => ((req ((0 : Int) ≤ x113 ∧ x113 < (64 : Nat))).bind fun _ => ((req ((0 : Int) ≤ x113 ∧ x113 < (64 : Nat))).bind fun _ => ((sha_turn (getV x114 (0 : Int)) (2 : Int)).bind fun t166 => ((sha_turn (getV x114 (0 : Int)) (13 : Int)).bind fun t172 => ((sha_turn (getV x114 (0 : Int)) (22 : Int)).bind fun t178 => some (.inl ((wrap64 (x113 + (1 : Int))), #v[((((((getV x114 (7 : Int)) + ((t128 ^^^ t134) ^^^ t140)) + (((getV x114 (4 : Int)) &&& (getV x114 (5 : Int))) ^^^ ((~~~(getV x114 (4 : Int))) &&& (getV x114 (6 : Int))))) + (getV a2 x113)) + (getV x46 x113)) + (((t166 ^^^ t172) ^^^ t178) + ((((getV x114 (0 : Int)) &&& (getV x114 (1 : Int))) ^^^ ((getV x114 (0 : Int)) &&& (getV x114 (2 : Int)))) ^^^ ((getV x114 (1 : Int)) &&& (getV x114 (2 : Int)))))), (getV x114 (0 : Int)), (getV x114 (1 : Int)), (getV x114 (2 : Int)), ((getV x114 (3 : Int)) + (((((getV x114 (7 : Int)) + ((t128 ^^^ t134) ^^^ t140)) + (((getV x114 (4 : Int)) &&& (getV x114 (5 : Int))) ^^^ ((~~~(getV x114 (4 : Int))) &&& (getV x114 (6 : Int))))) + (getV a2 x113)) + (getV x46 x113))), (getV x114 (4 : Int)), (getV x114 (5 : Int)), (getV x114 (6 : Int))])))))))))) else some (.inr (x113, x114)))

def sha_state_mix_s2  : (Int × (Vector UInt32 64)) → Option ((Int × (Vector UInt32 64)) ⊕ (Int × (Vector UInt32 64)))
 | (x45, x46) => (if (decide (x45 < (64 : Int))) = true then ((req ((0 : Int) ≤ (wrap64 (x45 - (15 : Int))) ∧ (wrap64 (x45 - (15 : Int))) < (64 : Nat))).bind fun _ => ((req ((0 : Int) ≤ (wrap64 (x45 - (2 : Int))) ∧ (wrap64 (x45 - (2 : Int))) < (64 : Nat))).bind fun _ => ((req ((0 : Int) ≤ (wrap64 (x45 - (16 : Int))) ∧ (wrap64 (x45 - (16 : Int))) < (64 : Nat))).bind fun _ => ((sha_turn (getV x46 (wrap64 (x45 - (15 : Int)))) (7 : Int)).bind fun t58 => ((sha_turn (getV x46 (wrap64 (x45 - (15 : Int)))) (18 : Int)).bind fun t64 => ((req ((0 : Int) ≤ (wrap64 (x45 - (7 : Int))) ∧ (wrap64 (x45 - (7 : Int))) < (64 : Nat))).bind fun _ => ((sha_turn (getV x46 (wrap64 (x45 - (2 : Int)))) (17 : Int)).bind fun t71 => ((sha_turn (getV x46 (wrap64 (x45 - (2 : Int)))) (19 : Int)).bind fun t77 => ((req ((0 : Int) ≤ x45 ∧ x45 < (64 : Nat))).bind fun _ => some (.inl ((wrap64 (x45 + (1 : Int))), (setV x46 x45 ((((getV x46 (wrap64 (x45 - (16 : Int)))) + ((t58 ^^^ t64) ^^^ (hr_u32 (getV x46 (wrap64 (x45 - (15 : Int)))) 3))) + (getV x46 (wrap64 (x45 - (7 : Int))))) + ((t71 ^^^ t77) ^^^ (hr_u32 (getV x46 (wrap64 (x45 - (2 : Int)))) 10))))))))))))))) else some (.inr (x45, x46)))

def sha_state_mix_s1 (a1 : (List UInt8)) : (Int × (Vector UInt32 64)) → Option ((Int × (Vector UInt32 64)) ⊕ (Int × (Vector UInt32 64)))
 | (x8, x9) => (if (decide (x8 < (16 : Int))) = true then ((req ((0 : Int) ≤ (wrap64 ((4 : Int) * x8)) ∧ (wrap64 ((4 : Int) * x8)) < lenI a1)).bind fun _ => ((req ((0 : Int) ≤ (wrap64 ((wrap64 ((4 : Int) * x8)) + (1 : Int))) ∧ (wrap64 ((wrap64 ((4 : Int) * x8)) + (1 : Int))) < lenI a1)).bind fun _ => ((req ((0 : Int) ≤ (wrap64 ((wrap64 ((4 : Int) * x8)) + (2 : Int))) ∧ (wrap64 ((wrap64 ((4 : Int) * x8)) + (2 : Int))) < lenI a1)).bind fun _ => ((req ((0 : Int) ≤ (wrap64 ((wrap64 ((4 : Int) * x8)) + (3 : Int))) ∧ (wrap64 ((wrap64 ((4 : Int) * x8)) + (3 : Int))) < lenI a1)).bind fun _ => ((req ((0 : Int) ≤ x8 ∧ x8 < (64 : Nat))).bind fun _ => some (.inl ((wrap64 (x8 + (1 : Int))), (setV x9 x8 ((((hl_u32 ((getI a1 (wrap64 ((4 : Int) * x8))).toUInt32) 24) ||| (hl_u32 ((getI a1 (wrap64 ((wrap64 ((4 : Int) * x8)) + (1 : Int)))).toUInt32) 16)) ||| (hl_u32 ((getI a1 (wrap64 ((wrap64 ((4 : Int) * x8)) + (2 : Int)))).toUInt32) 8)) ||| ((getI a1 (wrap64 ((wrap64 ((4 : Int) * x8)) + (3 : Int)))).toUInt32)))))))))) else some (.inr (x8, x9)))

def sha_state_mix  (a0 : (Vector UInt32 8)) (a1 : (List UInt8)) (a2 : (Vector UInt32 64)) : Option (Vector UInt32 8) :=
 ((iter (sha_state_mix_s1 a1) ((0 : Int), (Vector.replicate 64 0))).bind fun b11 => (match b11 with | (x8, x9) => ((iter (sha_state_mix_s2) ((16 : Int), x9)).bind fun b48 => (match b48 with | (x45, x46) => ((iter (sha_state_mix_s3 a2 x46) ((0 : Int), a0)).bind fun b116 => (match b116 with | (x113, x114) => ((iter (sha_state_mix_s4 x114) ((0 : Int), a0)).bind fun b216 => (match b216 with | (x213, x214) => some x214))))))))

theorem sha_state_mix_ok {S : Hp} (a0 : (Vector UInt32 8)) (a1 : (List UInt8)) (a2 : (Vector UInt32 64)) {b0 : Nat} {va1 : Value} (qa1 : Sls S va1 a1) {b2 o2 : Nat} (qp2 : At S b2 o2 (cells [sU32 a2])) {r : (Vector UInt32 8)} (h : sha_state_mix a0 a1 a2 = some r) : FnP Tryz.prog 142 [.pointer (some ⟨b0, 0, none⟩), va1, .pointer (some ⟨b2, o2, none⟩)] S (Blk b0 [sU32 a0]) (fun v S' A' => v = .tuple #[] ∧ A' = Blk b0 [sU32 r]) := by
 unfold sha_state_mix at h
 refine Fn.ofP [] 198 Tryz.func142 rfl Tryz.ntmps142 (Nat.le_of_ble_eq_true rfl) rfl (fun o F Q hQ hN hret => ?_)
 refine sr (fun _ hK1 => ?_)
 refine st (OS.alloc _ (by decide) zero183 (fun ad2 => ?_))
 refine nt hK1 ?_
 refine G.seq (fun _ hK4 => ?_)
 refine sr (fun _ hK5 => ?_)
 refine mv ?_
 refine nt hK5 ?_
 refine G.block ?_
 obtain ⟨b11, wb11, ho12⟩ := bind_some' h
 refine G.keep [18, 6, 0, 1, 2] rfl ?_
 refine G.loopK (sha_state_mix_s1 a1) (fun s₀ E' S' L' => match s₀ with | (x8, x9) => S.le S' ∧ E' = [(18, .int .i64 x8), (6, .pointer (some ⟨ad2, 0, none⟩)), (0, .pointer (some ⟨b0, 0, none⟩)), (1, va1), (2, .pointer (some ⟨b2, o2, none⟩))] ∧ Blk ad2 [sU32 x9] :: Blk b0 [sU32 a0] :: F = L') b11 0 (fun E₀ S₀ L₀ => ∃ (x8 : Int) (x9 : (Vector UInt32 64)), S.le S₀ ∧ b11 = (x8, x9) ∧ E₀ = [(6, .pointer (some ⟨ad2, 0, none⟩)), (0, .pointer (some ⟨b0, 0, none⟩)), (2, .pointer (some ⟨b2, o2, none⟩))] ∧ Blk ad2 [sU32 x9] :: Blk b0 [sU32 a0] :: F = L₀) wb11 ?_ ?_ ?_
 ·rintro _ S39 _ ⟨x8, x9, e40, rfl, rfl, rfl⟩
  have h := ho12; clear ho12
  try dsimp only at h
  replace qp2 := qp2.up e40
  refine GX.exit_block ?_
  refine GX.then hK4 ?_
  refine G.seq (fun _ hK41 => ?_)
  refine sr (fun _ hK42 => ?_)
  refine an ?_
  refine nt hK42 ?_
  refine G.block ?_
  obtain ⟨b48, wb48, ho49⟩ := bind_some' h
  refine G.keep [8, 6, 0, 2] rfl ?_
  refine G.loopK (sha_state_mix_s2) (fun s₀ E' S' L' => match s₀ with | (x45, x46) => S39.le S' ∧ E' = [(8, .int .i64 x45), (6, .pointer (some ⟨ad2, 0, none⟩)), (0, .pointer (some ⟨b0, 0, none⟩)), (2, .pointer (some ⟨b2, o2, none⟩))] ∧ Blk ad2 [sU32 x46] :: Blk b0 [sU32 a0] :: F = L') b48 2 (fun E₀ S₀ L₀ => ∃ (x45 : Int) (x46 : (Vector UInt32 64)), S39.le S₀ ∧ b48 = (x45, x46) ∧ E₀ = [(6, .pointer (some ⟨ad2, 0, none⟩)), (0, .pointer (some ⟨b0, 0, none⟩)), (2, .pointer (some ⟨b2, o2, none⟩))] ∧ Blk ad2 [sU32 x46] :: Blk b0 [sU32 a0] :: F = L₀) wb48 ?_ ?_ ?_
  ·rintro _ S104 _ ⟨x45, x46, e105, rfl, rfl, rfl⟩
   have h := ho49; clear ho49
   try dsimp only at h
   replace qp2 := qp2.up e105
   refine GX.exit_block ?_
   refine GX.then hK41 ?_
   refine sr (fun _ hK106 => ?_)
   refine mv ?_
   refine vl (Y.nilCheck rfl) ?_
   refine lb 1 0 1 [sU32 a0] row203 ?_
   refine st (OS.alloc _ (by decide) zero203 (fun ad107 => ?_))
   refine sf 0 1 [sU32 a0] (aggV_cells _) (okS_cons (ok_sU32 _) oN) size203 ?_
   refine nt hK106 ?_
   refine G.seq (fun _ hK109 => ?_)
   refine sr (fun _ hK110 => ?_)
   refine mv ?_
   refine nt hK110 ?_
   refine G.block ?_
   obtain ⟨b116, wb116, ho117⟩ := bind_some' h
   refine G.keep [101, 11, 6, 0, 2] rfl ?_
   refine G.loopK (sha_state_mix_s3 a2 x46) (fun s₀ E' S' L' => match s₀ with | (x113, x114) => S104.le S' ∧ E' = [(101, .int .i64 x113), (11, .pointer (some ⟨ad107, 0, none⟩)), (6, .pointer (some ⟨ad2, 0, none⟩)), (0, .pointer (some ⟨b0, 0, none⟩)), (2, .pointer (some ⟨b2, o2, none⟩))] ∧ Blk ad107 [sU32 x114] :: Blk ad2 [sU32 x46] :: Blk b0 [sU32 a0] :: F = L') b116 4 (fun E₀ S₀ L₀ => ∃ (x113 : Int) (x114 : (Vector UInt32 8)), S104.le S₀ ∧ b116 = (x113, x114) ∧ E₀ = [(11, .pointer (some ⟨ad107, 0, none⟩)), (0, .pointer (some ⟨b0, 0, none⟩))] ∧ Blk ad107 [sU32 x114] :: Blk ad2 [sU32 x46] :: Blk b0 [sU32 a0] :: F = L₀) wb116 ?_ ?_ ?_
   ·rintro _ S208 _ ⟨x113, x114, e209, rfl, rfl, rfl⟩
    have h := ho117; clear ho117
    try dsimp only at h
    refine GX.exit_block ?_
    refine GX.then hK109 ?_
    refine sr (fun _ hK210 => ?_)
    refine mv ?_
    refine nt hK210 ?_
    refine G.block ?_
    obtain ⟨b216, wb216, ho217⟩ := bind_some' h
    refine G.keep [183, 11, 0] rfl ?_
    refine G.loopK (sha_state_mix_s4 x114) (fun s₀ E' S' L' => match s₀ with | (x213, x214) => S208.le S' ∧ E' = [(183, .int .i64 x213), (11, .pointer (some ⟨ad107, 0, none⟩)), (0, .pointer (some ⟨b0, 0, none⟩))] ∧ Blk ad107 [sU32 x114] :: Blk ad2 [sU32 x46] :: Blk b0 [sU32 x214] :: F = L') b216 6 (fun E₀ S₀ L₀ => ∃ (x213 : Int) (x214 : (Vector UInt32 8)), S208.le S₀ ∧ b216 = (x213, x214) ∧ E₀ = [] ∧ Blk ad107 [sU32 x114] :: Blk ad2 [sU32 x46] :: Blk b0 [sU32 x214] :: F = L₀) wb216 ?_ ?_ ?_
    ·rintro _ S226 _ ⟨x213, x214, e227, rfl, rfl, rfl⟩
     have h := ho217; clear ho217
     try dsimp only at h
     refine GX.exit_block ?_
     refine GX.fall hN ?_
     obtain rfl := Option.some.inj h
     exact hret _ _ _ _ _ 2 (l2 e40 (l2 e105 (l2 e209 e227))) .nil ⟨rfl, rfl⟩ rfl
    ·exact ⟨Hp.le_refl _, rfl, rfl⟩
    rintro ⟨x213, x214⟩ _ S211 _ ⟨e212, rfl, rfl⟩ out4 h hf4 K4 hK4 hx215
    rw [sha_state_mix_s4] at h
    refine sr (fun _ hK218 => ?_)
    refine vl (Y.ltI rfl rfl) ?_
    refine nt hK218 ?_
    refine G.seq (fun _ hK219 => ?_)
    refine G.cond _ rfl (fun c220 => ?_) (fun c220 => ?_)
    ·replace h := ite_t c220 h
     refine sk hK219 ?_
     refine G.seq (fun _ hK221 => ?_)
     refine G.block ?_
     refine sr (fun _ hK222 => ?_)
     refine mv ?_
     refine an ?_
     refine nt hK222 ?_
     obtain ⟨g223, h⟩ := req_bind h
     obtain ⟨g224, h⟩ := req_bind h
     obtain ⟨g225, h⟩ := req_bind h
     refine G.drawS 11 _ (Blk ad107 [sU32 x114] :: Blk ad2 [sU32 x46] :: (fun _ => True) :: F) mixed .refl (by kernel_rfl) ?_
     refine tx 0 rfl (.same (.same (.lose .refl))) hQ (fun _ _ _ => Y.move rfl) ?_
     refine tx 1 rfl (.same (.same (.lose .refl))) hQ (fun _ _ _ => Y.move rfl) ?_
     refine tx 2 rfl (.same (.same (.lose .refl))) hQ (fun _ _ _ => Y.nilCheck rfl) ?_
     refine tx 3 rfl (.same (.same (.lose .refl))) hQ (fun _ _ _ => Y.idxA rfl rfl arr203 g223) ?_
     refine tk 4 [4, 11] rfl hQ Gd.none (fun S₀ X₀ e₀ => Y.loadE (X₀.length + 2)  0 _ _ rfl (Lk rfl) rfl rfl (at_sU32 _ _ g223) one180) ?_
     refine tx 5 rfl (.same (.same (.lose .refl))) hQ (fun _ _ _ => Y.move rfl) ?_
     refine tx 6 rfl (.same (.same (.lose .refl))) hQ (fun _ _ _ => Y.idxA rfl rfl arr203 g224) ?_
     refine tx 7 rfl (.same (.same (.lose .refl))) hQ (fun S₀ X₀ e₀ => Y.loadE (X₀.length + 0)  0 _ _ rfl (Lk rfl) rfl rfl (at_sU32 _ _ g224) one180) ?_
     refine tx 8 rfl (.same (.same (.lose .refl))) hQ (fun _ _ _ => Y.add_u32 (a := (getV x214 x213)) (b := (getV x114 x213)) rfl rfl) ?_
     refine tx 9 rfl (.same (.same (.lose .refl))) hQ (fun _ _ _ => Y.nilCheck rfl) ?_
     refine tx 10 rfl (.same (.same (.lose .refl))) hQ (fun _ _ _ => Y.idxA rfl rfl arr203 g225) ?_
     refine g1 11 ?_
     refine n2 rfl (OS.storeE 2 0 (sU32 (setV x214 x213 ((getV x214 x213) + (getV x114 x213)))) [sU32 (setV x214 x213 ((getV x214 x213) + (getV x114 x213)))] _ rfl rfl rfl rfl rfl rfl (lt_of_bnd g225) (set_sU32 _ _ _) rfl size180 ⟨⟨[], (.same (.same (.lose .refl))), l0⟩, ?_⟩)
     refine dn ?_
     refine GX.normal_block ?_
     refine GX.then hK221 ?_
     refine G.region ?_
     refine vl (Y.addI rfl rfl) ?_
     refine mv ?_
     refine GO.nil ?_
     obtain rfl := Option.some.inj h
     refine GX.keep [183, 11, 0] rfl ?_
     exact hK4 _ _ _ _ rfl ⟨e212, rfl, rfl⟩
    replace h := ite_f c220 h
    refine G.exit ?_
    refine GX.exit_then ?_
    obtain rfl := Option.some.inj h
    refine GX.keep [] rfl ?_
    exact hx215 _ _ _ ⟨_, _, e212, (hf4 _ rfl).symm, rfl, rfl⟩
   ·exact ⟨Hp.le_refl _, rfl, rfl⟩
   rintro ⟨x113, x114⟩ _ S111 _ ⟨e112, rfl, rfl⟩ out3 h hf3 K3 hK3 hx115
   rw [sha_state_mix_s3] at h
   replace qp2 := qp2.up e112
   refine sr (fun _ hK118 => ?_)
   refine vl (Y.ltI rfl rfl) ?_
   refine nt hK118 ?_
   refine G.seq (fun _ hK119 => ?_)
   refine G.cond _ rfl (fun c120 => ?_) (fun c120 => ?_)
   ·replace h := ite_t c120 h
    refine sk hK119 ?_
    refine G.seq (fun _ hK121 => ?_)
    refine G.block ?_
    refine sr (fun _ hK122 => ?_)
    refine mv ?_
    refine an ?_
    refine nt hK122 ?_
    refine G.seq (fun _ hK123 => ?_)
    refine G.drawN 6 mixed (by kernel_rfl) ?_
    refine tn 0 rfl hQ (fun _ _ _ => Y.idxA rfl rfl arr203 (by decide)) ?_
    refine tn 1 rfl hQ (fun S₀ X₀ e₀ => Y.loadE (X₀.length + 0)  0 _ _ rfl (Lk rfl) rfl rfl (at_sU32 _ _ (by decide)) one180) ?_
    refine tn 2 rfl hQ (fun _ _ _ => Y.idxA rfl rfl arr203 (by decide)) ?_
    refine tn 3 rfl hQ (fun S₀ X₀ e₀ => Y.loadE (X₀.length + 0)  0 _ _ rfl (Lk rfl) rfl rfl (at_sU32 _ _ (by decide)) one180) ?_
    refine tn 4 rfl hQ (fun _ _ _ => Y.assign rfl) ?_
    refine tn 5 rfl hQ (fun _ _ _ => Y.assign rfl) ?_
    refine dn ?_
    refine GX.then hK123 ?_
    refine G.seq (fun _ hK126 => ?_)
    obtain ⟨t128, wt128, h⟩ := bind_some' h
    obtain ⟨t134, wt134, h⟩ := bind_some' h
    obtain ⟨t140, wt140, h⟩ := bind_some' h
    obtain ⟨g148, h⟩ := req_bind h
    obtain ⟨g149, h⟩ := req_bind h
    refine G.drawN 33 mixed (by kernel_rfl) ?_
    refine tn 0 rfl hQ (fun _ _ _ => Y.idxA rfl rfl arr203 (by decide)) ?_
    refine tn 1 rfl hQ (fun S₀ X₀ e₀ => Y.loadE (X₀.length + 0)  0 _ _ rfl (Lk rfl) rfl rfl (at_sU32 _ _ (by decide)) one180) ?_
    refine tn 2 rfl hQ (fun _ _ _ => Y.move rfl) ?_
    refine tn 4 rfl hQ (fun _ _ _ => Y.move rfl) ?_
    refine tn 7 rfl hQ (fun _ _ _ => Y.move rfl) ?_
    refine tn 11 rfl hQ (fun _ _ _ => Y.move rfl) ?_
    refine tn 12 rfl hQ (fun _ _ _ => Y.idxA rfl rfl arr203 (by decide)) ?_
    refine tn 13 rfl hQ (fun S₀ X₀ e₀ => Y.loadE (X₀.length + 0)  0 _ _ rfl (Lk rfl) rfl rfl (at_sU32 _ _ (by decide)) one180) ?_
    refine tn 14 rfl hQ (fun _ _ _ => Y.and_u32 (a := (getV x114 (4 : Int))) (b := (getV x114 (5 : Int))) rfl rfl) ?_
    refine tn 15 rfl hQ (fun _ _ _ => Y.move rfl) ?_
    refine tn 16 rfl hQ (fun _ _ _ => Y.not_u32 (a := (getV x114 (4 : Int))) rfl) ?_
    refine tn 17 rfl hQ (fun _ _ _ => Y.idxA rfl rfl arr203 (by decide)) ?_
    refine tn 18 rfl hQ (fun S₀ X₀ e₀ => Y.loadE (X₀.length + 0)  0 _ _ rfl (Lk rfl) rfl rfl (at_sU32 _ _ (by decide)) one180) ?_
    refine tn 19 rfl hQ (fun _ _ _ => Y.and_u32 (a := (~~~(getV x114 (4 : Int)))) (b := (getV x114 (6 : Int))) rfl rfl) ?_
    refine tn 20 rfl hQ (fun _ _ _ => Y.xor_u32 (a := ((getV x114 (4 : Int)) &&& (getV x114 (5 : Int)))) (b := ((~~~(getV x114 (4 : Int))) &&& (getV x114 (6 : Int)))) rfl rfl) ?_
    refine tn 22 rfl hQ (fun _ _ _ => Y.move rfl) ?_
    refine tn 23 rfl hQ (fun _ _ _ => Y.move rfl) ?_
    refine tn 24 rfl hQ (fun _ _ _ => Y.nilCheck rfl) ?_
    refine tn 25 rfl hQ (fun _ _ _ => Y.idxA rfl rfl arr183 g148) ?_
    refine tn 26 rfl hQ (fun S₀ X₀ e₀ => Y.loadSV _ rfl (At.cell (qp2.up e₀) (i := 0) rfl (at_sU32 _ _ g148) rfl) one180) ?_
    refine tn 28 rfl hQ (fun _ _ _ => Y.move rfl) ?_
    refine tn 29 rfl hQ (fun _ _ _ => Y.idxA rfl rfl arr183 g149) ?_
    refine tn 30 rfl hQ (fun S₀ X₀ e₀ => Y.loadE (X₀.length + 1)  0 _ _ rfl (Lk rfl) rfl rfl (at_sU32 _ _ g149) one180) ?_
    refine g1 3 ?_
    refine n1 rfl (cl fb187 (sha_turn_ok (getV x114 (4 : Int)) (6 : Int) wt128) (fun v150 S151 e152 z153 => ⟨⟨[], .refl, e152⟩, ?_⟩))
    have q154 := qp2.up e152
    obtain rfl := z153
    refine g1 5 ?_
    refine n1 rfl (cl fb187 (sha_turn_ok (getV x114 (4 : Int)) (11 : Int) wt134) (fun v155 S156 e157 z158 => ⟨⟨[], .refl, (l2 e152 e157)⟩, ?_⟩))
    have q159 := q154.up e157
    obtain rfl := z158
    refine tn 6 rfl hQ (fun _ _ _ => Y.xor_u32 (a := t128) (b := t134) rfl rfl) ?_
    refine g1 8 ?_
    refine n1 rfl (cl fb187 (sha_turn_ok (getV x114 (4 : Int)) (25 : Int) wt140) (fun v160 S161 e162 z163 => ⟨⟨[], .refl, (l2 e152 (l2 e157 e162))⟩, ?_⟩))
    have q164 := q159.up e162
    obtain rfl := z163
    refine tn 9 rfl hQ (fun _ _ _ => Y.xor_u32 (a := (t128 ^^^ t134)) (b := t140) rfl rfl) ?_
    refine tn 10 rfl hQ (fun _ _ _ => Y.add_u32 (a := (getV x114 (7 : Int))) (b := ((t128 ^^^ t134) ^^^ t140)) rfl rfl) ?_
    refine tn 21 rfl hQ (fun _ _ _ => Y.add_u32 (a := ((getV x114 (7 : Int)) + ((t128 ^^^ t134) ^^^ t140))) (b := (((getV x114 (4 : Int)) &&& (getV x114 (5 : Int))) ^^^ ((~~~(getV x114 (4 : Int))) &&& (getV x114 (6 : Int))))) rfl rfl) ?_
    refine tn 27 rfl hQ (fun _ _ _ => Y.add_u32 (a := (((getV x114 (7 : Int)) + ((t128 ^^^ t134) ^^^ t140)) + (((getV x114 (4 : Int)) &&& (getV x114 (5 : Int))) ^^^ ((~~~(getV x114 (4 : Int))) &&& (getV x114 (6 : Int)))))) (b := (getV a2 x113)) rfl rfl) ?_
    refine tn 31 rfl hQ (fun _ _ _ => Y.add_u32 (a := ((((getV x114 (7 : Int)) + ((t128 ^^^ t134) ^^^ t140)) + (((getV x114 (4 : Int)) &&& (getV x114 (5 : Int))) ^^^ ((~~~(getV x114 (4 : Int))) &&& (getV x114 (6 : Int))))) + (getV a2 x113))) (b := (getV x46 x113)) rfl rfl) ?_
    refine tn 32 rfl hQ (fun _ _ _ => Y.assign rfl) ?_
    refine dn ?_
    refine GX.then hK126 ?_
    refine G.seq (fun _ hK165 => ?_)
    obtain ⟨t166, wt166, h⟩ := bind_some' h
    obtain ⟨t172, wt172, h⟩ := bind_some' h
    obtain ⟨t178, wt178, h⟩ := bind_some' h
    refine G.drawN 25 mixed (by kernel_rfl) ?_
    refine tn 0 rfl hQ (fun _ _ _ => Y.move rfl) ?_
    refine tn 2 rfl hQ (fun _ _ _ => Y.move rfl) ?_
    refine tn 5 rfl hQ (fun _ _ _ => Y.move rfl) ?_
    refine tn 8 rfl hQ (fun _ _ _ => Y.move rfl) ?_
    refine tn 9 rfl hQ (fun _ _ _ => Y.idxA rfl rfl arr203 (by decide)) ?_
    refine tn 10 rfl hQ (fun S₀ X₀ e₀ => Y.loadE (X₀.length + 0)  0 _ _ rfl (Lk rfl) rfl rfl (at_sU32 _ _ (by decide)) one180) ?_
    refine tn 11 rfl hQ (fun _ _ _ => Y.and_u32 (a := (getV x114 (0 : Int))) (b := (getV x114 (1 : Int))) rfl rfl) ?_
    refine tn 12 rfl hQ (fun _ _ _ => Y.move rfl) ?_
    refine tn 13 rfl hQ (fun _ _ _ => Y.idxA rfl rfl arr203 (by decide)) ?_
    refine tn 14 rfl hQ (fun S₀ X₀ e₀ => Y.loadE (X₀.length + 0)  0 _ _ rfl (Lk rfl) rfl rfl (at_sU32 _ _ (by decide)) one180) ?_
    refine tn 15 rfl hQ (fun _ _ _ => Y.and_u32 (a := (getV x114 (0 : Int))) (b := (getV x114 (2 : Int))) rfl rfl) ?_
    refine tn 16 rfl hQ (fun _ _ _ => Y.xor_u32 (a := ((getV x114 (0 : Int)) &&& (getV x114 (1 : Int)))) (b := ((getV x114 (0 : Int)) &&& (getV x114 (2 : Int)))) rfl rfl) ?_
    refine tn 17 rfl hQ (fun _ _ _ => Y.idxA rfl rfl arr203 (by decide)) ?_
    refine tn 18 rfl hQ (fun S₀ X₀ e₀ => Y.loadE (X₀.length + 0)  0 _ _ rfl (Lk rfl) rfl rfl (at_sU32 _ _ (by decide)) one180) ?_
    refine tn 19 rfl hQ (fun _ _ _ => Y.idxA rfl rfl arr203 (by decide)) ?_
    refine tn 20 rfl hQ (fun S₀ X₀ e₀ => Y.loadE (X₀.length + 0)  0 _ _ rfl (Lk rfl) rfl rfl (at_sU32 _ _ (by decide)) one180) ?_
    refine tn 21 rfl hQ (fun _ _ _ => Y.and_u32 (a := (getV x114 (1 : Int))) (b := (getV x114 (2 : Int))) rfl rfl) ?_
    refine tn 22 rfl hQ (fun _ _ _ => Y.xor_u32 (a := (((getV x114 (0 : Int)) &&& (getV x114 (1 : Int))) ^^^ ((getV x114 (0 : Int)) &&& (getV x114 (2 : Int))))) (b := ((getV x114 (1 : Int)) &&& (getV x114 (2 : Int)))) rfl rfl) ?_
    refine g1 1 ?_
    refine n1 rfl (cl fb187 (sha_turn_ok (getV x114 (0 : Int)) (2 : Int) wt166) (fun v188 S189 e190 z191 => ⟨⟨[], .refl, e190⟩, ?_⟩))
    have q192 := q164.up e190
    obtain rfl := z191
    refine g1 3 ?_
    refine n1 rfl (cl fb187 (sha_turn_ok (getV x114 (0 : Int)) (13 : Int) wt172) (fun v193 S194 e195 z196 => ⟨⟨[], .refl, (l2 e190 e195)⟩, ?_⟩))
    have q197 := q192.up e195
    obtain rfl := z196
    refine tn 4 rfl hQ (fun _ _ _ => Y.xor_u32 (a := t166) (b := t172) rfl rfl) ?_
    refine g1 6 ?_
    refine n1 rfl (cl fb187 (sha_turn_ok (getV x114 (0 : Int)) (22 : Int) wt178) (fun v198 S199 e200 z201 => ⟨⟨[], .refl, (l2 e190 (l2 e195 e200))⟩, ?_⟩))
    have q202 := q197.up e200
    obtain rfl := z201
    refine tn 7 rfl hQ (fun _ _ _ => Y.xor_u32 (a := (t166 ^^^ t172)) (b := t178) rfl rfl) ?_
    refine tn 23 rfl hQ (fun _ _ _ => Y.add_u32 (a := ((t166 ^^^ t172) ^^^ t178)) (b := ((((getV x114 (0 : Int)) &&& (getV x114 (1 : Int))) ^^^ ((getV x114 (0 : Int)) &&& (getV x114 (2 : Int)))) ^^^ ((getV x114 (1 : Int)) &&& (getV x114 (2 : Int))))) rfl rfl) ?_
    refine tn 24 rfl hQ (fun _ _ _ => Y.assign rfl) ?_
    refine dn ?_
    refine GX.then hK165 ?_
    refine G.region ?_
    refine mv ?_
    refine mv ?_
    refine vl (Y.add_u32 (a := (((((getV x114 (7 : Int)) + ((t128 ^^^ t134) ^^^ t140)) + (((getV x114 (4 : Int)) &&& (getV x114 (5 : Int))) ^^^ ((~~~(getV x114 (4 : Int))) &&& (getV x114 (6 : Int))))) + (getV a2 x113)) + (getV x46 x113))) (b := (((t166 ^^^ t172) ^^^ t178) + ((((getV x114 (0 : Int)) &&& (getV x114 (1 : Int))) ^^^ ((getV x114 (0 : Int)) &&& (getV x114 (2 : Int)))) ^^^ ((getV x114 (1 : Int)) &&& (getV x114 (2 : Int)))))) rfl rfl) ?_
    refine mv ?_
    refine vl (Y.idxA rfl rfl arr203 (by decide)) ?_
    refine vl (Y.loadE 0  0 _ _ rfl rfl rfl rfl (at_sU32 _ _ (by decide)) one180) ?_
    refine vl (Y.idxA rfl rfl arr203 (by decide)) ?_
    refine vl (Y.loadE 0  0 _ _ rfl rfl rfl rfl (at_sU32 _ _ (by decide)) one180) ?_
    refine vl (Y.idxA rfl rfl arr203 (by decide)) ?_
    refine vl (Y.loadE 0  0 _ _ rfl rfl rfl rfl (at_sU32 _ _ (by decide)) one180) ?_
    refine mv ?_
    refine vl (Y.add_u32 (a := (getV x114 (3 : Int))) (b := (((((getV x114 (7 : Int)) + ((t128 ^^^ t134) ^^^ t140)) + (((getV x114 (4 : Int)) &&& (getV x114 (5 : Int))) ^^^ ((~~~(getV x114 (4 : Int))) &&& (getV x114 (6 : Int))))) + (getV a2 x113)) + (getV x46 x113))) rfl rfl) ?_
    refine mv ?_
    refine vl (Y.idxA rfl rfl arr203 (by decide)) ?_
    refine vl (Y.loadE 0  0 _ _ rfl rfl rfl rfl (at_sU32 _ _ (by decide)) one180) ?_
    refine vl (Y.idxA rfl rfl arr203 (by decide)) ?_
    refine vl (Y.loadE 0  0 _ _ rfl rfl rfl rfl (at_sU32 _ _ (by decide)) one180) ?_
    refine vl (Y.buildA [u32V ((((((getV x114 (7 : Int)) + ((t128 ^^^ t134) ^^^ t140)) + (((getV x114 (4 : Int)) &&& (getV x114 (5 : Int))) ^^^ ((~~~(getV x114 (4 : Int))) &&& (getV x114 (6 : Int))))) + (getV a2 x113)) + (getV x46 x113)) + (((t166 ^^^ t172) ^^^ t178) + ((((getV x114 (0 : Int)) &&& (getV x114 (1 : Int))) ^^^ ((getV x114 (0 : Int)) &&& (getV x114 (2 : Int)))) ^^^ ((getV x114 (1 : Int)) &&& (getV x114 (2 : Int)))))), u32V (getV x114 (0 : Int)), u32V (getV x114 (1 : Int)), u32V (getV x114 (2 : Int)), u32V ((getV x114 (3 : Int)) + (((((getV x114 (7 : Int)) + ((t128 ^^^ t134) ^^^ t140)) + (((getV x114 (4 : Int)) &&& (getV x114 (5 : Int))) ^^^ ((~~~(getV x114 (4 : Int))) &&& (getV x114 (6 : Int))))) + (getV a2 x113)) + (getV x46 x113))), u32V (getV x114 (4 : Int)), u32V (getV x114 (5 : Int)), u32V (getV x114 (6 : Int))] [sU32 (#v[((((((getV x114 (7 : Int)) + ((t128 ^^^ t134) ^^^ t140)) + (((getV x114 (4 : Int)) &&& (getV x114 (5 : Int))) ^^^ ((~~~(getV x114 (4 : Int))) &&& (getV x114 (6 : Int))))) + (getV a2 x113)) + (getV x46 x113)) + (((t166 ^^^ t172) ^^^ t178) + ((((getV x114 (0 : Int)) &&& (getV x114 (1 : Int))) ^^^ ((getV x114 (0 : Int)) &&& (getV x114 (2 : Int)))) ^^^ ((getV x114 (1 : Int)) &&& (getV x114 (2 : Int)))))), (getV x114 (0 : Int)), (getV x114 (1 : Int)), (getV x114 (2 : Int)), ((getV x114 (3 : Int)) + (((((getV x114 (7 : Int)) + ((t128 ^^^ t134) ^^^ t140)) + (((getV x114 (4 : Int)) &&& (getV x114 (5 : Int))) ^^^ ((~~~(getV x114 (4 : Int))) &&& (getV x114 (6 : Int))))) + (getV a2 x113)) + (getV x46 x113))), (getV x114 (4 : Int)), (getV x114 (5 : Int)), (getV x114 (6 : Int))])] arr203 zero203 rfl (by kernel_rfl) (by kernel_rfl)) ?_
    refine sf 0 1 [sU32 (#v[((((((getV x114 (7 : Int)) + ((t128 ^^^ t134) ^^^ t140)) + (((getV x114 (4 : Int)) &&& (getV x114 (5 : Int))) ^^^ ((~~~(getV x114 (4 : Int))) &&& (getV x114 (6 : Int))))) + (getV a2 x113)) + (getV x46 x113)) + (((t166 ^^^ t172) ^^^ t178) + ((((getV x114 (0 : Int)) &&& (getV x114 (1 : Int))) ^^^ ((getV x114 (0 : Int)) &&& (getV x114 (2 : Int)))) ^^^ ((getV x114 (1 : Int)) &&& (getV x114 (2 : Int)))))), (getV x114 (0 : Int)), (getV x114 (1 : Int)), (getV x114 (2 : Int)), ((getV x114 (3 : Int)) + (((((getV x114 (7 : Int)) + ((t128 ^^^ t134) ^^^ t140)) + (((getV x114 (4 : Int)) &&& (getV x114 (5 : Int))) ^^^ ((~~~(getV x114 (4 : Int))) &&& (getV x114 (6 : Int))))) + (getV a2 x113)) + (getV x46 x113))), (getV x114 (4 : Int)), (getV x114 (5 : Int)), (getV x114 (6 : Int))])] (aggV_cells _) (okS_cons (ok_sU32 _) oN) size203 ?_
    refine GO.nil ?_
    refine GX.normal_block ?_
    refine GX.then hK121 ?_
    refine G.region ?_
    refine vl (Y.addI rfl rfl) ?_
    refine mv ?_
    refine GO.nil ?_
    obtain rfl := Option.some.inj h
    refine GX.keep [101, 11, 6, 0, 2] rfl ?_
    exact hK3 _ _ _ _ rfl ⟨(l2 e112 (l2 e152 (l2 e157 (l2 e162 (l2 e190 (l2 e195 e200)))))), rfl, rfl⟩
   replace h := ite_f c120 h
   refine G.exit ?_
   refine GX.exit_then ?_
   obtain rfl := Option.some.inj h
   refine GX.keep [11, 0] rfl ?_
   exact hx115 _ _ _ ⟨_, _, e112, (hf3 _ rfl).symm, rfl, rfl⟩
  ·exact ⟨Hp.le_refl _, rfl, rfl⟩
  rintro ⟨x45, x46⟩ _ S43 _ ⟨e44, rfl, rfl⟩ out2 h hf2 K2 hK2 hx47
  rw [sha_state_mix_s2] at h
  replace qp2 := qp2.up e44
  refine G.seq (fun _ hK50 => ?_)
  refine sr (fun _ hK51 => ?_)
  refine mv ?_
  refine vl (Y.ltI rfl rfl) ?_
  refine nt hK51 ?_
  refine G.cond _ rfl (fun c52 => ?_) (fun c52 => ?_)
  ·replace h := ite_t c52 h
   refine sk hK50 ?_
   refine G.seq (fun _ hK53 => ?_)
   refine G.block ?_
   refine G.seq (fun _ hK54 => ?_)
   obtain ⟨g55, h⟩ := req_bind h
   obtain ⟨g56, h⟩ := req_bind h
   refine G.drawN 10 mixed (by kernel_rfl) ?_
   refine tn 0 rfl hQ (fun _ _ _ => Y.move rfl) ?_
   refine tn 1 rfl hQ (fun _ _ _ => Y.subI rfl rfl) ?_
   refine tn 2 rfl hQ (fun _ _ _ => Y.idxA rfl rfl arr183 g55) ?_
   refine tn 3 rfl hQ (fun S₀ X₀ e₀ => Y.loadE (X₀.length + 0)  0 _ _ rfl (Lk rfl) rfl rfl (at_sU32 _ _ g55) one180) ?_
   refine tn 4 rfl hQ (fun _ _ _ => Y.move rfl) ?_
   refine tn 5 rfl hQ (fun _ _ _ => Y.subI rfl rfl) ?_
   refine tn 6 rfl hQ (fun _ _ _ => Y.idxA rfl rfl arr183 g56) ?_
   refine tn 7 rfl hQ (fun S₀ X₀ e₀ => Y.loadE (X₀.length + 0)  0 _ _ rfl (Lk rfl) rfl rfl (at_sU32 _ _ g56) one180) ?_
   refine tn 8 rfl hQ (fun _ _ _ => Y.assign rfl) ?_
   refine tn 9 rfl hQ (fun _ _ _ => Y.assign rfl) ?_
   refine dn ?_
   refine GX.then hK54 ?_
   obtain ⟨g57, h⟩ := req_bind h
   obtain ⟨t58, wt58, h⟩ := bind_some' h
   obtain ⟨t64, wt64, h⟩ := bind_some' h
   obtain ⟨g70, h⟩ := req_bind h
   obtain ⟨t71, wt71, h⟩ := bind_some' h
   obtain ⟨t77, wt77, h⟩ := bind_some' h
   obtain ⟨g83, h⟩ := req_bind h
   refine G.drawS 29 _ ((fun _ => True) :: Blk b0 [sU32 a0] :: F) mixed .refl (by kernel_rfl) ?_
   refine tx 0 rfl (.lose .refl) hQ (fun _ _ _ => Y.move rfl) ?_
   refine tx 1 rfl (.lose .refl) hQ (fun _ _ _ => Y.move rfl) ?_
   refine tx 2 rfl (.lose .refl) hQ (fun _ _ _ => Y.subI rfl rfl) ?_
   refine tx 3 rfl (.lose .refl) hQ (fun _ _ _ => Y.idxA rfl rfl arr183 g57) ?_
   refine tk 4 [4, 29] rfl hQ Gd.none (fun S₀ X₀ e₀ => Y.loadE (X₀.length + 0)  0 _ _ rfl (Lk rfl) rfl rfl (at_sU32 _ _ g57) one180) ?_
   refine tx 5 rfl (.lose .refl) hQ (fun _ _ _ => Y.move rfl) ?_
   refine tx 7 rfl (.lose .refl) hQ (fun _ _ _ => Y.move rfl) ?_
   refine tx 10 rfl (.lose .refl) hQ (fun _ _ _ => Y.move rfl) ?_
   refine tx 11 rfl (.lose .refl) hQ (fun _ _ _ => Y.shr_u32 (a := (getV x46 (wrap64 (x45 - (15 : Int))))) (c := 3) rfl rfl (by decide)) ?_
   refine tx 14 rfl (.lose .refl) hQ (fun _ _ _ => Y.move rfl) ?_
   refine tx 15 rfl (.lose .refl) hQ (fun _ _ _ => Y.subI rfl rfl) ?_
   refine tx 16 rfl (.lose .refl) hQ (fun _ _ _ => Y.idxA rfl rfl arr183 g70) ?_
   refine tk 17 [17, 29] rfl hQ Gd.none (fun S₀ X₀ e₀ => Y.loadE (X₀.length + 0)  0 _ _ rfl (Lk rfl) rfl rfl (at_sU32 _ _ g70) one180) ?_
   refine tx 19 rfl (.lose .refl) hQ (fun _ _ _ => Y.move rfl) ?_
   refine tx 21 rfl (.lose .refl) hQ (fun _ _ _ => Y.move rfl) ?_
   refine tx 24 rfl (.lose .refl) hQ (fun _ _ _ => Y.move rfl) ?_
   refine tx 25 rfl (.lose .refl) hQ (fun _ _ _ => Y.shr_u32 (a := (getV x46 (wrap64 (x45 - (2 : Int))))) (c := 10) rfl rfl (by decide)) ?_
   refine g1 6 ?_
   refine n1 rfl (cl fb187 (sha_turn_ok (getV x46 (wrap64 (x45 - (15 : Int)))) (7 : Int) wt58) (fun v84 S85 e86 z87 => ⟨⟨[], .refl, e86⟩, ?_⟩))
   have q88 := qp2.up e86
   obtain rfl := z87
   refine g1 8 ?_
   refine n1 rfl (cl fb187 (sha_turn_ok (getV x46 (wrap64 (x45 - (15 : Int)))) (18 : Int) wt64) (fun v89 S90 e91 z92 => ⟨⟨[], .refl, (l2 e86 e91)⟩, ?_⟩))
   have q93 := q88.up e91
   obtain rfl := z92
   refine tx 9 rfl (.lose .refl) hQ (fun _ _ _ => Y.xor_u32 (a := t58) (b := t64) rfl rfl) ?_
   refine tx 12 rfl (.lose .refl) hQ (fun _ _ _ => Y.xor_u32 (a := (t58 ^^^ t64)) (b := (hr_u32 (getV x46 (wrap64 (x45 - (15 : Int)))) 3)) rfl rfl) ?_
   refine tx 13 rfl (.lose .refl) hQ (fun _ _ _ => Y.add_u32 (a := (getV x46 (wrap64 (x45 - (16 : Int))))) (b := ((t58 ^^^ t64) ^^^ (hr_u32 (getV x46 (wrap64 (x45 - (15 : Int)))) 3))) rfl rfl) ?_
   refine tx 18 rfl (.lose .refl) hQ (fun _ _ _ => Y.add_u32 (a := ((getV x46 (wrap64 (x45 - (16 : Int)))) + ((t58 ^^^ t64) ^^^ (hr_u32 (getV x46 (wrap64 (x45 - (15 : Int)))) 3)))) (b := (getV x46 (wrap64 (x45 - (7 : Int))))) rfl rfl) ?_
   refine g1 20 ?_
   refine n1 rfl (cl fb187 (sha_turn_ok (getV x46 (wrap64 (x45 - (2 : Int)))) (17 : Int) wt71) (fun v94 S95 e96 z97 => ⟨⟨[], .refl, (l2 e86 (l2 e91 e96))⟩, ?_⟩))
   have q98 := q93.up e96
   obtain rfl := z97
   refine g1 22 ?_
   refine n1 rfl (cl fb187 (sha_turn_ok (getV x46 (wrap64 (x45 - (2 : Int)))) (19 : Int) wt77) (fun v99 S100 e101 z102 => ⟨⟨[], .refl, (l2 e86 (l2 e91 (l2 e96 e101)))⟩, ?_⟩))
   have q103 := q98.up e101
   obtain rfl := z102
   refine tx 23 rfl (.lose .refl) hQ (fun _ _ _ => Y.xor_u32 (a := t71) (b := t77) rfl rfl) ?_
   refine tx 26 rfl (.lose .refl) hQ (fun _ _ _ => Y.xor_u32 (a := (t71 ^^^ t77)) (b := (hr_u32 (getV x46 (wrap64 (x45 - (2 : Int)))) 10)) rfl rfl) ?_
   refine tx 27 rfl (.lose .refl) hQ (fun _ _ _ => Y.add_u32 (a := (((getV x46 (wrap64 (x45 - (16 : Int)))) + ((t58 ^^^ t64) ^^^ (hr_u32 (getV x46 (wrap64 (x45 - (15 : Int)))) 3))) + (getV x46 (wrap64 (x45 - (7 : Int)))))) (b := ((t71 ^^^ t77) ^^^ (hr_u32 (getV x46 (wrap64 (x45 - (2 : Int)))) 10))) rfl rfl) ?_
   refine tx 28 rfl (.lose .refl) hQ (fun _ _ _ => Y.idxA rfl rfl arr183 g83) ?_
   refine g1 29 ?_
   refine n2 rfl (OS.storeE 0 0 (sU32 (setV x46 x45 ((((getV x46 (wrap64 (x45 - (16 : Int)))) + ((t58 ^^^ t64) ^^^ (hr_u32 (getV x46 (wrap64 (x45 - (15 : Int)))) 3))) + (getV x46 (wrap64 (x45 - (7 : Int))))) + ((t71 ^^^ t77) ^^^ (hr_u32 (getV x46 (wrap64 (x45 - (2 : Int)))) 10))))) [sU32 (setV x46 x45 ((((getV x46 (wrap64 (x45 - (16 : Int)))) + ((t58 ^^^ t64) ^^^ (hr_u32 (getV x46 (wrap64 (x45 - (15 : Int)))) 3))) + (getV x46 (wrap64 (x45 - (7 : Int))))) + ((t71 ^^^ t77) ^^^ (hr_u32 (getV x46 (wrap64 (x45 - (2 : Int)))) 10))))] _ rfl rfl rfl rfl rfl rfl (lt_of_bnd g83) (set_sU32 _ _ _) rfl size180 ⟨⟨[], (.lose .refl), (l2 e86 (l2 e91 (l2 e96 e101)))⟩, ?_⟩)
   refine dn ?_
   refine GX.normal_block ?_
   refine GX.then hK53 ?_
   refine G.region ?_
   refine mv ?_
   refine vl (Y.addI rfl rfl) ?_
   refine an ?_
   refine GO.nil ?_
   obtain rfl := Option.some.inj h
   refine GX.keep [8, 6, 0, 2] rfl ?_
   exact hK2 _ _ _ _ rfl ⟨(l2 e44 (l2 e86 (l2 e91 (l2 e96 e101)))), rfl, rfl⟩
  replace h := ite_f c52 h
  refine G.exit ?_
  refine GX.exit_then ?_
  obtain rfl := Option.some.inj h
  refine GX.keep [6, 0, 2] rfl ?_
  exact hx47 _ _ _ ⟨_, _, e44, (hf2 _ rfl).symm, rfl, rfl⟩
 ·exact ⟨Hp.le_refl _, rfl, rfl⟩
 rintro ⟨x8, x9⟩ _ S6 _ ⟨e7, rfl, rfl⟩ out1 h hf1 K1 hK1 hx10
 rw [sha_state_mix_s1] at h
 replace qa1 := qa1.up e7
 replace qp2 := qp2.up e7
 refine sr (fun _ hK13 => ?_)
 refine vl (Y.ltI rfl rfl) ?_
 refine nt hK13 ?_
 refine G.seq (fun _ hK14 => ?_)
 refine G.cond _ rfl (fun c15 => ?_) (fun c15 => ?_)
 ·replace h := ite_t c15 h
  refine sk hK14 ?_
  refine G.seq (fun _ hK16 => ?_)
  refine G.block ?_
  refine sr (fun _ hK17 => ?_)
  refine mv ?_
  refine an ?_
  refine nt hK17 ?_
  obtain ⟨g18, h⟩ := req_bind h
  obtain ⟨ad19, p20, z21, q22⟩ := Sls.at qa1 g18
  obtain ⟨g23, h⟩ := req_bind h
  obtain ⟨ad24, p25, z26, q27⟩ := Sls.at qa1 g23
  obtain ⟨g28, h⟩ := req_bind h
  obtain ⟨ad29, p30, z31, q32⟩ := Sls.at qa1 g28
  obtain ⟨g33, h⟩ := req_bind h
  obtain ⟨ad34, p35, z36, q37⟩ := Sls.at qa1 g33
  obtain ⟨g38, h⟩ := req_bind h
  refine G.drawS 35 _ ((fun _ => True) :: Blk b0 [sU32 a0] :: F) mixed .refl (by kernel_rfl) ?_
  refine tx 0 rfl (.lose .refl) hQ (fun _ _ _ => Y.move rfl) ?_
  refine tx 1 rfl (.lose .refl) hQ (fun _ _ _ => Y.move rfl) ?_
  refine tx 2 rfl (.lose .refl) hQ (fun _ _ _ => Y.move rfl) ?_
  refine tx 3 rfl (.lose .refl) hQ (fun _ _ _ => Y.mulI rfl rfl) ?_
  refine tx 4 rfl (.lose .refl) hQ (fun _ _ _ => Y.idxS rfl z21 rfl slc102 g18) ?_
  refine tx 5 rfl (.lose .refl) hQ (fun S₀ X₀ e₀ => Y.loadSV _ rfl (At.val (At.part (q22.up e₀) 0 1 [sV (u8V (getI a1 (wrap64 ((4 : Int) * x8))))] rfl rfl)) one5) ?_
  refine tx 6 rfl (.lose .refl) hQ (fun _ _ _ => Y.cv_u8_u32 (a := (getI a1 (wrap64 ((4 : Int) * x8)))) rfl int5 int180) ?_
  refine tx 7 rfl (.lose .refl) hQ (fun _ _ _ => Y.shl_u32 (a := (getI a1 (wrap64 ((4 : Int) * x8))).toUInt32) (c := 24) rfl rfl (by decide)) ?_
  refine tx 8 rfl (.lose .refl) hQ (fun _ _ _ => Y.move rfl) ?_
  refine tx 9 rfl (.lose .refl) hQ (fun _ _ _ => Y.move rfl) ?_
  refine tx 10 rfl (.lose .refl) hQ (fun _ _ _ => Y.mulI rfl rfl) ?_
  refine tx 11 rfl (.lose .refl) hQ (fun _ _ _ => Y.addI rfl rfl) ?_
  refine tx 12 rfl (.lose .refl) hQ (fun _ _ _ => Y.idxS rfl z26 rfl slc102 g23) ?_
  refine tx 13 rfl (.lose .refl) hQ (fun S₀ X₀ e₀ => Y.loadSV _ rfl (At.val (At.part (q27.up e₀) 0 1 [sV (u8V (getI a1 (wrap64 ((wrap64 ((4 : Int) * x8)) + (1 : Int)))))] rfl rfl)) one5) ?_
  refine tx 14 rfl (.lose .refl) hQ (fun _ _ _ => Y.cv_u8_u32 (a := (getI a1 (wrap64 ((wrap64 ((4 : Int) * x8)) + (1 : Int))))) rfl int5 int180) ?_
  refine tx 15 rfl (.lose .refl) hQ (fun _ _ _ => Y.shl_u32 (a := (getI a1 (wrap64 ((wrap64 ((4 : Int) * x8)) + (1 : Int)))).toUInt32) (c := 16) rfl rfl (by decide)) ?_
  refine tx 16 rfl (.lose .refl) hQ (fun _ _ _ => Y.or_u32 (a := (hl_u32 ((getI a1 (wrap64 ((4 : Int) * x8))).toUInt32) 24)) (b := (hl_u32 ((getI a1 (wrap64 ((wrap64 ((4 : Int) * x8)) + (1 : Int)))).toUInt32) 16)) rfl rfl) ?_
  refine tx 17 rfl (.lose .refl) hQ (fun _ _ _ => Y.move rfl) ?_
  refine tx 18 rfl (.lose .refl) hQ (fun _ _ _ => Y.move rfl) ?_
  refine tx 19 rfl (.lose .refl) hQ (fun _ _ _ => Y.mulI rfl rfl) ?_
  refine tx 20 rfl (.lose .refl) hQ (fun _ _ _ => Y.addI rfl rfl) ?_
  refine tx 21 rfl (.lose .refl) hQ (fun _ _ _ => Y.idxS rfl z31 rfl slc102 g28) ?_
  refine tx 22 rfl (.lose .refl) hQ (fun S₀ X₀ e₀ => Y.loadSV _ rfl (At.val (At.part (q32.up e₀) 0 1 [sV (u8V (getI a1 (wrap64 ((wrap64 ((4 : Int) * x8)) + (2 : Int)))))] rfl rfl)) one5) ?_
  refine tx 23 rfl (.lose .refl) hQ (fun _ _ _ => Y.cv_u8_u32 (a := (getI a1 (wrap64 ((wrap64 ((4 : Int) * x8)) + (2 : Int))))) rfl int5 int180) ?_
  refine tx 24 rfl (.lose .refl) hQ (fun _ _ _ => Y.shl_u32 (a := (getI a1 (wrap64 ((wrap64 ((4 : Int) * x8)) + (2 : Int)))).toUInt32) (c := 8) rfl rfl (by decide)) ?_
  refine tx 25 rfl (.lose .refl) hQ (fun _ _ _ => Y.or_u32 (a := ((hl_u32 ((getI a1 (wrap64 ((4 : Int) * x8))).toUInt32) 24) ||| (hl_u32 ((getI a1 (wrap64 ((wrap64 ((4 : Int) * x8)) + (1 : Int)))).toUInt32) 16))) (b := (hl_u32 ((getI a1 (wrap64 ((wrap64 ((4 : Int) * x8)) + (2 : Int)))).toUInt32) 8)) rfl rfl) ?_
  refine tx 26 rfl (.lose .refl) hQ (fun _ _ _ => Y.move rfl) ?_
  refine tx 27 rfl (.lose .refl) hQ (fun _ _ _ => Y.move rfl) ?_
  refine tx 28 rfl (.lose .refl) hQ (fun _ _ _ => Y.mulI rfl rfl) ?_
  refine tx 29 rfl (.lose .refl) hQ (fun _ _ _ => Y.addI rfl rfl) ?_
  refine tx 30 rfl (.lose .refl) hQ (fun _ _ _ => Y.idxS rfl z36 rfl slc102 g33) ?_
  refine tx 31 rfl (.lose .refl) hQ (fun S₀ X₀ e₀ => Y.loadSV _ rfl (At.val (At.part (q37.up e₀) 0 1 [sV (u8V (getI a1 (wrap64 ((wrap64 ((4 : Int) * x8)) + (3 : Int)))))] rfl rfl)) one5) ?_
  refine tx 32 rfl (.lose .refl) hQ (fun _ _ _ => Y.cv_u8_u32 (a := (getI a1 (wrap64 ((wrap64 ((4 : Int) * x8)) + (3 : Int))))) rfl int5 int180) ?_
  refine tx 33 rfl (.lose .refl) hQ (fun _ _ _ => Y.or_u32 (a := (((hl_u32 ((getI a1 (wrap64 ((4 : Int) * x8))).toUInt32) 24) ||| (hl_u32 ((getI a1 (wrap64 ((wrap64 ((4 : Int) * x8)) + (1 : Int)))).toUInt32) 16)) ||| (hl_u32 ((getI a1 (wrap64 ((wrap64 ((4 : Int) * x8)) + (2 : Int)))).toUInt32) 8))) (b := (getI a1 (wrap64 ((wrap64 ((4 : Int) * x8)) + (3 : Int)))).toUInt32) rfl rfl) ?_
  refine tx 34 rfl (.lose .refl) hQ (fun _ _ _ => Y.idxA rfl rfl arr183 g38) ?_
  refine g1 35 ?_
  refine n2 rfl (OS.storeE 0 0 (sU32 (setV x9 x8 ((((hl_u32 ((getI a1 (wrap64 ((4 : Int) * x8))).toUInt32) 24) ||| (hl_u32 ((getI a1 (wrap64 ((wrap64 ((4 : Int) * x8)) + (1 : Int)))).toUInt32) 16)) ||| (hl_u32 ((getI a1 (wrap64 ((wrap64 ((4 : Int) * x8)) + (2 : Int)))).toUInt32) 8)) ||| ((getI a1 (wrap64 ((wrap64 ((4 : Int) * x8)) + (3 : Int)))).toUInt32)))) [sU32 (setV x9 x8 ((((hl_u32 ((getI a1 (wrap64 ((4 : Int) * x8))).toUInt32) 24) ||| (hl_u32 ((getI a1 (wrap64 ((wrap64 ((4 : Int) * x8)) + (1 : Int)))).toUInt32) 16)) ||| (hl_u32 ((getI a1 (wrap64 ((wrap64 ((4 : Int) * x8)) + (2 : Int)))).toUInt32) 8)) ||| ((getI a1 (wrap64 ((wrap64 ((4 : Int) * x8)) + (3 : Int)))).toUInt32)))] _ rfl rfl rfl rfl rfl rfl (lt_of_bnd g38) (set_sU32 _ _ _) rfl size180 ⟨⟨[], (.lose .refl), l0⟩, ?_⟩)
  refine dn ?_
  refine GX.normal_block ?_
  refine GX.then hK16 ?_
  refine G.region ?_
  refine vl (Y.addI rfl rfl) ?_
  refine mv ?_
  refine GO.nil ?_
  obtain rfl := Option.some.inj h
  refine GX.keep [18, 6, 0, 1, 2] rfl ?_
  exact hK1 _ _ _ _ rfl ⟨e7, rfl, rfl⟩
 replace h := ite_f c15 h
 refine G.exit ?_
 refine GX.exit_then ?_
 obtain rfl := Option.some.inj h
 refine GX.keep [6, 0, 2] rfl ?_
 exact hx10 _ _ _ ⟨_, _, e7, (hf1 _ rfl).symm, rfl, rfl⟩

/- chirograph/sha.Sum -/
def sha_Sum_s4 (x72 : (Vector UInt32 8)) : (Int × Lab) → Option ((Int × Lab) ⊕ (Int × Lab))
 | (x100, x101) => (if (decide (x100 < (32 : Int))) = true then ((req ((0 : Int) ≤ (wrap64 (Int.tdiv x100 (4 : Int))) ∧ (wrap64 (Int.tdiv x100 (4 : Int))) < (8 : Nat))).bind fun _ => ((req (0 ≤ (wrap64 ((24 : Int) - (wrap64 ((8 : Int) * (Int.tmod x100 (4 : Int)))))))).bind fun _ => ((req ((0 : Int) ≤ x100 ∧ x100 < (32 : Nat))).bind fun _ => some (.inl ((wrap64 (x100 + (1 : Int))), (setV x101 x100 ((hr_u32 (getV x72 (wrap64 (Int.tdiv x100 (4 : Int)))) (wrap64 ((24 : Int) - (wrap64 ((8 : Int) * (Int.tmod x100 (4 : Int))))))).toUInt8))))))) else some (.inr (x100, x101)))

def sha_Sum_s3 (t53 : (Vector UInt32 64)) : ((List UInt8) × (Vector UInt32 8)) → Option (((List UInt8) × (Vector UInt32 8)) ⊕ ((List UInt8) × (Vector UInt32 8)))
 | (x69, x72) => (if (decide ((0 : Int) < (lenI x69))) = true then ((req ((0 : Int) ≤ 0 ∧ 0 ≤ (64 : Int) ∧ (64 : Int) ≤ lenI x69)).bind fun _ => ((sha_state_mix x72 (cutL x69 0 (64 : Int)) t53).bind fun t83 => ((req ((0 : Int) ≤ (64 : Int) ∧ (64 : Int) ≤ (lenI x69) ∧ (lenI x69) ≤ lenI x69)).bind fun _ => some (.inl ((cutL x69 (64 : Int) (lenI x69)), t83))))) else some (.inr (x69, x72)))

def sha_Sum_s2 (a0 : Str) : (Int × (List UInt8)) → Option ((Int × (List UInt8)) ⊕ (Int × (List UInt8)))
 | (x35, x36) => (if (decide ((0 : Int) ≤ x35)) = true then ((req (0 ≤ x35)).bind fun _ => ((req (List.length x36 + List.length ([(hr_u64 (8 * (u64I (lenI a0))) x35).toUInt8] : List UInt8) ≤ LIM)).bind fun _ => some (.inl ((wrap64 (x35 - (8 : Int))), (x36 ++ ([(hr_u64 (8 * (u64I (lenI a0))) x35).toUInt8] : List UInt8)))))) else some (.inr (x35, x36)))

def sha_Sum_s1  : ((List UInt8)) → Option (((List UInt8)) ⊕ ((List UInt8)))
 | x17 => (if ((Int.tmod (lenI x17) (64 : Int)) != (56 : Int)) = true then ((req (List.length x17 + List.length ([0] : List UInt8) ≤ LIM)).bind fun _ => some (.inl (x17 ++ ([0] : List UInt8)))) else some (.inr x17))

def sha_Sum  (a0 : Str) : Option Lab :=
 ((req (List.length a0 + List.length ([128] : List UInt8) ≤ LIM)).bind fun _ => ((iter (sha_Sum_s1) (a0 ++ ([128] : List UInt8))).bind fun b20 => (match b20 with | x17 => ((iter (sha_Sum_s2 a0) ((56 : Int), x17)).bind fun b39 => (match b39 with | (x35, x36) => ((sha_steps).bind fun t53 => ((iter (sha_Sum_s3 t53) (x36, #v[1779033703, 3144134277, 1013904242, 2773480762, 1359893119, 2600822924, 528734635, 1541459225])).bind fun b74 => (match b74 with | (x69, x72) => ((iter (sha_Sum_s4 x72) ((0 : Int), zL)).bind fun b103 => (match b103 with | (x100, x101) => some x101))))))))))

theorem sha_Sum_ok {S : Hp} (a0 : Str) {r : Lab} (h : sha_Sum a0 = some r) : Fn Tryz.prog 66 [strV a0] S (fun v S' => v = aggV [sL r]) := by
 unfold sha_Sum at h
 refine fo [.cell 2 23] 61 Tryz.func66 Tryz.ntmps66 (fun o F Q hQ hN hret => ?_)
 refine sr (fun _ hK1 => ?_)
 refine st (OS.alloc _ (by decide) zero23 (fun ad2 => ?_))
 refine nt hK1 ?_
 refine sr (fun _ hK4 => ?_)
 refine vl (Y.buildA [u32V 1779033703, u32V 3144134277, u32V 1013904242, u32V 2773480762, u32V 1359893119, u32V 2600822924, u32V 528734635, u32V 1541459225] [sU32 (#v[1779033703, 3144134277, 1013904242, 2773480762, 1359893119, 2600822924, 528734635, 1541459225])] arr203 zero203 rfl (by kernel_rfl) (by kernel_rfl)) ?_
 refine st (OS.alloc _ (by decide) zero203 (fun ad5 => ?_))
 refine sf 0 1 [sU32 (#v[1779033703, 3144134277, 1013904242, 2773480762, 1359893119, 2600822924, 528734635, 1541459225])] (aggV_cells _) (okS_cons (ok_sU32 _) oN) size203 ?_
 refine nt hK4 ?_
 refine sr (fun _ hK7 => ?_)
 refine mv ?_
 refine st (OS.convSB (s := a0) (by decide) rfl sty9 byt102 (fun v8 => ?_))
 refine bs ([128] : List UInt8) el102 (fun v10 => ?_)
 obtain ⟨g12, h⟩ := req_bind h
 refine st (OS.append (xs := a0) (ys := ([128] : List UInt8)) 1 (by decide) rfl rfl rfl (Rw.src (k := 0) rfl) el102 src102 g12 (fun v13 => ?_))
 refine an ?_
 refine nt hK7 ?_
 refine G.seq (fun _ hK14 => ?_)
 refine G.block ?_
 obtain ⟨b20, wb20, ho21⟩ := bind_some' h
 refine G.keep [4, 3, 2, 0] rfl ?_
 refine G.loopK (sha_Sum_s1) (fun s₀ E' S' L' => match s₀ with | x17 => S.le S' ∧ ∃ (v18 : Value), E' = [(4, v18), (3, .pointer (some ⟨ad5, 0, none⟩)), (2, .pointer (some ⟨ad2, 0, none⟩)), (0, strV a0)] ∧ Rw v10 ([128] : List UInt8) :: Rw v18 x17 :: Blk ad5 [sU32 (#v[1779033703, 3144134277, 1013904242, 2773480762, 1359893119, 2600822924, 528734635, 1541459225])] :: Blk ad2 [sL zL] :: F = L') b20 0 (fun E₀ S₀ L₀ => ∃ (x17 : (List UInt8)) (v18 : Value), S.le S₀ ∧ b20 = x17 ∧ E₀ = [(4, v18), (3, .pointer (some ⟨ad5, 0, none⟩)), (2, .pointer (some ⟨ad2, 0, none⟩)), (0, strV a0)] ∧ Rw v10 ([128] : List UInt8) :: Rw v18 x17 :: Blk ad5 [sU32 (#v[1779033703, 3144134277, 1013904242, 2773480762, 1359893119, 2600822924, 528734635, 1541459225])] :: Blk ad2 [sL zL] :: F = L₀) wb20 ?_ ?_ ?_
 ·rintro _ S29 _ ⟨x17, v18, e30, rfl, rfl, rfl⟩
  have h := ho21; clear ho21
  try dsimp only at h
  refine GX.exit_block ?_
  refine GX.then hK14 ?_
  refine G.seq (fun _ hK31 => ?_)
  refine sr (fun _ hK32 => ?_)
  refine an ?_
  refine nt hK32 ?_
  refine G.block ?_
  obtain ⟨b39, wb39, ho40⟩ := bind_some' h
  refine G.keep [5, 4, 3, 2, 0] rfl ?_
  refine G.loopK (sha_Sum_s2 a0) (fun s₀ E' S' L' => match s₀ with | (x35, x36) => S29.le S' ∧ ∃ (v37 : Value), E' = [(5, .int .i64 x35), (4, v37), (3, .pointer (some ⟨ad5, 0, none⟩)), (2, .pointer (some ⟨ad2, 0, none⟩)), (0, strV a0)] ∧ Rw v10 ([128] : List UInt8) :: Rw v37 x36 :: Blk ad5 [sU32 (#v[1779033703, 3144134277, 1013904242, 2773480762, 1359893119, 2600822924, 528734635, 1541459225])] :: Blk ad2 [sL zL] :: F = L') b39 2 (fun E₀ S₀ L₀ => ∃ (x35 : Int) (x36 : (List UInt8)) (v37 : Value), S29.le S₀ ∧ b39 = (x35, x36) ∧ E₀ = [(4, v37), (3, .pointer (some ⟨ad5, 0, none⟩)), (2, .pointer (some ⟨ad2, 0, none⟩))] ∧ Rw v10 ([128] : List UInt8) :: Rw v37 x36 :: Blk ad5 [sU32 (#v[1779033703, 3144134277, 1013904242, 2773480762, 1359893119, 2600822924, 528734635, 1541459225])] :: Blk ad2 [sL zL] :: F = L₀) wb39 ?_ ?_ ?_
  ·rintro _ S50 _ ⟨x35, x36, v37, e51, rfl, rfl, rfl⟩
   have h := ho40; clear ho40
   try dsimp only at h
   refine GX.exit_block ?_
   refine GX.then hK31 ?_
   refine sr (fun _ hK52 => ?_)
   obtain ⟨t53, wt53, h⟩ := bind_some' h
   refine st (cl fb141 (sha_steps_ok  wt53) (fun v54 S55 e56 z57 => ?_))
   obtain rfl := z57
   refine st (OS.alloc _ (by decide) zero183 (fun ad58 => ?_))
   refine sf 0 1 [sU32 t53] (aggV_cells _) (okS_cons (ok_sU32 _) oN) size183 ?_
   refine nt hK52 ?_
   refine G.seq (fun _ hK60 => ?_)
   refine G.block ?_
   refine G.shareB 0 rfl (fun S61 e62 q63 => ?_)
   refine G.shareR 2 rfl (fun S64 e65 q66 => ?_)
   replace q63 := q63.up e65
   obtain ⟨b74, wb74, ho75⟩ := bind_some' h
   refine G.keep [6, 4, 3, 2] rfl ?_
   refine G.loopK (sha_Sum_s3 t53) (fun s₀ E' S' L' => match s₀ with | (x69, x72) => S64.le S' ∧ ∃ (v70 : Value), Sls S' v70 x69 ∧ E' = [(6, .pointer (some ⟨ad58, 0, none⟩)), (4, v70), (3, .pointer (some ⟨ad5, 0, none⟩)), (2, .pointer (some ⟨ad2, 0, none⟩))] ∧ (fun _ => True) :: Rw v10 ([128] : List UInt8) :: (fun _ => True) :: Blk ad5 [sU32 x72] :: Blk ad2 [sL zL] :: F = L') b74 4 (fun E₀ S₀ L₀ => ∃ (x69 : (List UInt8)) (x72 : (Vector UInt32 8)) (v70 : Value), S64.le S₀ ∧ b74 = (x69, x72) ∧ Sls S₀ v70 x69 ∧ E₀ = [(3, .pointer (some ⟨ad5, 0, none⟩)), (2, .pointer (some ⟨ad2, 0, none⟩))] ∧ (fun _ => True) :: Rw v10 ([128] : List UInt8) :: (fun _ => True) :: Blk ad5 [sU32 x72] :: Blk ad2 [sL zL] :: F = L₀) wb74 ?_ ?_ ?_
   ·rintro _ S91 _ ⟨x69, x72, v70, e92, rfl, q71, rfl, rfl⟩
    have h := ho75; clear ho75
    try dsimp only at h
    refine GX.exit_block ?_
    refine GX.then hK60 ?_
    refine sr (fun _ hK93 => ?_)
    refine st (OS.alloc _ (by decide) zero23 (fun ad94 => ?_))
    refine nt hK93 ?_
    refine G.seq (fun _ hK96 => ?_)
    refine sr (fun _ hK97 => ?_)
    refine mv ?_
    refine nt hK97 ?_
    refine G.block ?_
    obtain ⟨b103, wb103, ho104⟩ := bind_some' h
    refine G.keep [44, 7, 3, 2] rfl ?_
    refine G.loopK (sha_Sum_s4 x72) (fun s₀ E' S' L' => match s₀ with | (x100, x101) => S91.le S' ∧ E' = [(44, .int .i64 x100), (7, .pointer (some ⟨ad94, 0, none⟩)), (3, .pointer (some ⟨ad5, 0, none⟩)), (2, .pointer (some ⟨ad2, 0, none⟩))] ∧ Blk ad94 [sL x101] :: (fun _ => True) :: Rw v10 ([128] : List UInt8) :: (fun _ => True) :: Blk ad5 [sU32 x72] :: Blk ad2 [sL zL] :: F = L') b103 6 (fun E₀ S₀ L₀ => ∃ (x100 : Int) (x101 : Lab), S91.le S₀ ∧ b103 = (x100, x101) ∧ E₀ = [(7, .pointer (some ⟨ad94, 0, none⟩)), (2, .pointer (some ⟨ad2, 0, none⟩))] ∧ Blk ad94 [sL x101] :: (fun _ => True) :: Rw v10 ([128] : List UInt8) :: (fun _ => True) :: Blk ad5 [sU32 x72] :: Blk ad2 [sL zL] :: F = L₀) wb103 ?_ ?_ ?_
    ·rintro _ S113 _ ⟨x100, x101, e114, rfl, rfl, rfl⟩
     have h := ho104; clear ho104
     try dsimp only at h
     refine GX.exit_block ?_
     refine GX.then hK96 ?_
     refine sr (fun _ hK115 => ?_)
     refine lb 0 0 1 [sL x101] row23 ?_
     refine sf 5 1 [sL x101] (aggV_cells _) (oL oN) size23 ?_
     refine nt hK115 ?_
     refine G.ret ?_
     obtain rfl := Option.some.inj h
     exact hret _ _ _ _ 6 (l2 e30 (l2 e51 (l2 e56 (l2 e62 (l2 e65 (l2 e92 e114)))))) (.cons (.row (k := 5) rfl rfl row23 (by kernel_rfl)) .nil) rfl rfl
    ·exact ⟨Hp.le_refl _, rfl, rfl⟩
    rintro ⟨x100, x101⟩ _ S98 _ ⟨e99, rfl, rfl⟩ out4 h hf4 K4 hK4 hx102
    rw [sha_Sum_s4] at h
    refine sr (fun _ hK105 => ?_)
    refine vl (Y.ltI rfl rfl) ?_
    refine nt hK105 ?_
    refine G.seq (fun _ hK106 => ?_)
    refine G.cond _ rfl (fun c107 => ?_) (fun c107 => ?_)
    ·replace h := ite_t c107 h
     refine sk hK106 ?_
     refine G.seq (fun _ hK108 => ?_)
     refine G.block ?_
     refine sr (fun _ hK109 => ?_)
     refine mv ?_
     refine an ?_
     refine nt hK109 ?_
     refine G.region ?_
     refine mv ?_
     refine mv ?_
     refine vl (Y.quoI rfl rfl (by decide)) ?_
     obtain ⟨g110, h⟩ := req_bind h
     refine vl (Y.idxA rfl rfl arr203 g110) ?_
     refine vl (Y.loadE 4  0 _ _ rfl rfl rfl rfl (at_sU32 _ _ g110) one180) ?_
     refine mv ?_
     refine vl (Y.remI rfl rfl (by decide)) ?_
     refine vl (Y.mulI rfl rfl) ?_
     refine vl (Y.subI rfl rfl) ?_
     obtain ⟨g111, h⟩ := req_bind h
     refine vl (Y.shr_u32 (a := (getV x72 (wrap64 (Int.tdiv x100 (4 : Int))))) (c := (wrap64 ((24 : Int) - (wrap64 ((8 : Int) * (Int.tmod x100 (4 : Int))))))) rfl rfl g111) ?_
     refine vl (Y.cv_u32_u8 (a := (hr_u32 (getV x72 (wrap64 (Int.tdiv x100 (4 : Int)))) (wrap64 ((24 : Int) - (wrap64 ((8 : Int) * (Int.tmod x100 (4 : Int)))))))) rfl int180 int5) ?_
     obtain ⟨g112, h⟩ := req_bind h
     refine vl (Y.idxA rfl rfl arr23 g112) ?_
     refine st (OS.storeE 0 0 (sL (setV x101 x100 ((hr_u32 (getV x72 (wrap64 (Int.tdiv x100 (4 : Int)))) (wrap64 ((24 : Int) - (wrap64 ((8 : Int) * (Int.tmod x100 (4 : Int))))))).toUInt8))) [sL (setV x101 x100 ((hr_u32 (getV x72 (wrap64 (Int.tdiv x100 (4 : Int)))) (wrap64 ((24 : Int) - (wrap64 ((8 : Int) * (Int.tmod x100 (4 : Int))))))).toUInt8))] _ rfl rfl rfl rfl rfl rfl (lt_of_bnd g112) (set_sL _ _ _) rfl size5 ?_)
     refine GO.nil ?_
     refine GX.normal_block ?_
     refine GX.then hK108 ?_
     refine G.region ?_
     refine vl (Y.addI rfl rfl) ?_
     refine mv ?_
     refine GO.nil ?_
     obtain rfl := Option.some.inj h
     refine GX.keep [44, 7, 3, 2] rfl ?_
     exact hK4 _ _ _ _ rfl ⟨e99, rfl, rfl⟩
    replace h := ite_f c107 h
    refine G.exit ?_
    refine GX.exit_then ?_
    obtain rfl := Option.some.inj h
    refine GX.keep [7, 2] rfl ?_
    exact hx102 _ _ _ ⟨_, _, e99, (hf4 _ rfl).symm, rfl, rfl⟩
   ·exact ⟨Hp.le_refl _, v37, q66, rfl, rfl⟩
   rintro ⟨x69, x72⟩ _ S67 _ ⟨e68, v70, q71, rfl, rfl⟩ out3 h hf3 K3 hK3 hx73
   rw [sha_Sum_s3] at h
   replace q63 := q63.up e68
   refine G.seq (fun _ hK76 => ?_)
   refine sr (fun _ hK77 => ?_)
   refine mv ?_
   refine vl (Y.lenS rfl q71 slc102) ?_
   refine vl (Y.gtI rfl rfl) ?_
   refine nt hK77 ?_
   refine G.cond _ rfl (fun c78 => ?_) (fun c78 => ?_)
   ·replace h := ite_t c78 h
    refine sk hK76 ?_
    refine G.seq (fun _ hK79 => ?_)
    refine G.block ?_
    refine G.region ?_
    refine mv ?_
    obtain ⟨g80, h⟩ := req_bind h
    refine st (OS.sliceS 0 (64 : Int) none (some (.int .i64 (64 : Int))) (by decide) rfl q71 slc102 rfl rfl (.inl ⟨rfl, rfl⟩) (.inr ⟨_, rfl⟩) g80 (fun v81 q82 => ?_))
    obtain ⟨t83, wt83, h⟩ := bind_some' h
    refine st (OS.callP 3 _ (by decide) rfl fb142 rfl (sha_state_mix_ok x72 (cutL x69 0 (64 : Int)) t53 q82 q63 wt83) (fun v84 S85 _ e86 z87 => ?_))
    replace q63 := q63.up e86
    replace q71 := q71.up e86
    replace q82 := q82.up e86
    obtain ⟨rfl, rfl⟩ := z87
    refine GO.nil ?_
    refine GX.normal_block ?_
    refine GX.then hK79 ?_
    refine G.region ?_
    refine mv ?_
    obtain ⟨g88, h⟩ := req_bind h
    refine st (OS.sliceS (64 : Int) (lenI x69) (some (.int .i64 (64 : Int))) none (by decide) rfl q71 slc102 rfl rfl (.inr ⟨_, rfl⟩) (.inl ⟨rfl, rfl⟩) g88 (fun v89 q90 => ?_))
    refine an ?_
    refine GO.nil ?_
    obtain rfl := Option.some.inj h
    refine GX.keep [6, 4, 3, 2] rfl ?_
    exact hK3 _ _ _ _ rfl ⟨(l2 e68 e86), v89, q90, rfl, rfl⟩
   replace h := ite_f c78 h
   refine G.exit ?_
   refine GX.exit_then ?_
   obtain rfl := Option.some.inj h
   refine GX.keep [3, 2] rfl ?_
   exact hx73 _ _ _ ⟨_, _, _, e68, (hf3 _ rfl).symm, q71, rfl, rfl⟩
  ·exact ⟨Hp.le_refl _, v18, rfl, rfl⟩
  rintro ⟨x35, x36⟩ _ S33 _ ⟨e34, v37, rfl, rfl⟩ out2 h hf2 K2 hK2 hx38
  rw [sha_Sum_s2] at h
  refine G.seq (fun _ hK41 => ?_)
  refine sr (fun _ hK42 => ?_)
  refine mv ?_
  refine vl (Y.geI rfl rfl) ?_
  refine nt hK42 ?_
  refine G.cond _ rfl (fun c43 => ?_) (fun c43 => ?_)
  ·replace h := ite_t c43 h
   refine sk hK41 ?_
   refine G.seq (fun _ hK44 => ?_)
   refine G.block ?_
   refine G.region ?_
   refine mv ?_
   refine mv ?_
   refine vl (Y.lenStr (v := a0) rfl sty9) ?_
   refine vl (Y.cv_i64_u64 (a := (lenI a0)) rfl int3 int204) ?_
   refine vl (Y.mul_u64 (a := 8) (b := (u64I (lenI a0))) rfl rfl) ?_
   refine mv ?_
   obtain ⟨g45, h⟩ := req_bind h
   refine vl (Y.shr_u64 (a := (8 * (u64I (lenI a0)))) (c := x35) rfl rfl g45) ?_
   refine vl (Y.cv_u64_u8 (a := (hr_u64 (8 * (u64I (lenI a0))) x35)) rfl int204 int5) ?_
   refine bs ([(hr_u64 (8 * (u64I (lenI a0))) x35).toUInt8] : List UInt8) el102 (fun v46 => ?_)
   obtain ⟨g48, h⟩ := req_bind h
   refine st (OS.append (xs := x36) (ys := ([(hr_u64 (8 * (u64I (lenI a0))) x35).toUInt8] : List UInt8)) 2 (by decide) rfl rfl rfl (Rw.src (k := 0) rfl) el102 src102 g48 (fun v49 => ?_))
   refine an ?_
   refine GO.nil ?_
   refine GX.normal_block ?_
   refine GX.then hK44 ?_
   refine G.region ?_
   refine mv ?_
   refine vl (Y.subI rfl rfl) ?_
   refine an ?_
   refine GO.nil ?_
   obtain rfl := Option.some.inj h
   refine GX.keep [5, 4, 3, 2, 0] rfl ?_
   refine GX.less 1 rfl ?_
   exact hK2 _ _ _ _ rfl ⟨e34, v49, rfl, rfl⟩
  replace h := ite_f c43 h
  refine G.exit ?_
  refine GX.exit_then ?_
  obtain rfl := Option.some.inj h
  refine GX.keep [4, 3, 2] rfl ?_
  exact hx38 _ _ _ ⟨_, _, _, e34, (hf2 _ rfl).symm, rfl, rfl⟩
 ·exact ⟨Hp.le_refl _, v13, rfl, rfl⟩
 rintro x17 _ S15 _ ⟨e16, v18, rfl, rfl⟩ out1 h hf1 K1 hK1 hx19
 rw [sha_Sum_s1] at h
 refine G.seq (fun _ hK22 => ?_)
 refine sr (fun _ hK23 => ?_)
 refine mv ?_
 refine vl (Y.lenR 1  rfl rfl slc102) ?_
 refine vl (Y.remI rfl rfl (by decide)) ?_
 refine vl (Y.neI rfl rfl) ?_
 refine nt hK23 ?_
 refine G.cond _ rfl (fun c24 => ?_) (fun c24 => ?_)
 ·replace h := ite_t c24 h
  refine sk hK22 ?_
  refine G.block ?_
  refine G.region ?_
  refine mv ?_
  refine bs ([0] : List UInt8) el102 (fun v25 => ?_)
  obtain ⟨g27, h⟩ := req_bind h
  refine st (OS.append (xs := x17) (ys := ([0] : List UInt8)) 2 (by decide) rfl rfl rfl (Rw.src (k := 0) rfl) el102 src102 g27 (fun v28 => ?_))
  refine an ?_
  refine GO.nil ?_
  refine GX.normal_block ?_
  obtain rfl := Option.some.inj h
  refine GX.keep [4, 3, 2, 0] rfl ?_
  refine GX.less 1 rfl ?_
  exact hK1 _ _ _ _ rfl ⟨e16, v28, rfl, rfl⟩
 replace h := ite_f c24 h
 refine G.exit ?_
 refine GX.exit_then ?_
 obtain rfl := Option.some.inj h
 refine GX.keep [4, 3, 2, 0] rfl ?_
 exact hx19 _ _ _ ⟨_, _, e16, (hf1 _ rfl).symm, rfl, rfl⟩

end
end Go.Ch
end
section
/- Functions of the program: what each comes to, proved. -/
set_option linter.unusedVariables false
set_option linter.unusedSimpArgs false
set_option maxRecDepth 100000
set_option maxHeartbeats 4000000
namespace Go.Ch
open Go.RowKit (wrap64)
open Go.Proofs
noncomputable section
/- bytes.Compare -/
def bytes_Compare  (a0 : (List UInt8)) (a1 : (List UInt8)) : Option Int :=
 some (cmpB a0 a1)

theorem bytes_Compare_ok {S : Hp} (a0 : (List UInt8)) (a1 : (List UInt8)) {va0 : Value} (qa0 : Sls S va0 a0) {va1 : Value} (qa1 : Sls S va1 a1) {r : Int} (h : bytes_Compare a0 a1 = some r) : Fn Tryz.prog 181 [va0, va1] S (fun v S' => v = .int .i64 r) := by
 unfold bytes_Compare at h
 refine fo [.tmp 4] 8 Tryz.func181 Tryz.ntmps181 (fun o F Q hQ hN hret => ?_)
 refine sr (fun _ hK1 => ?_)
 refine an ?_
 refine nt hK1 ?_
 refine sr (fun _ hK2 => ?_)
 refine mv ?_
 refine mv ?_
 refine vl (Y.cmpB rfl rfl qa0 qa1 extc201) ?_
 refine an ?_
 refine nt hK2 ?_
 refine G.ret ?_
 obtain rfl := Option.some.inj h
 exact hret _ _ _ _ 0 l0 (.cons (.tmp rfl) .nil) rfl rfl

end
end Go.Ch
end
section
/- Functions of the program: what each comes to, proved. -/
set_option linter.unusedVariables false
set_option linter.unusedSimpArgs false
set_option maxRecDepth 100000
set_option maxHeartbeats 4000000
namespace Go.Ch
open Go.RowKit (wrap64)
open Go.Proofs
noncomputable section
/- chirograph/bits.Common -/
def bits_Common_s2  : (Int × UInt8) → Option ((Int × UInt8) ⊕ (Int × UInt8))
 | (x28, x29) => (if ((x29 &&& 128) == 0) = true then some (.inl ((wrap64 (x28 + (1 : Int))), (hl_u8 x29 1))) else some (.inr (x28, x29)))

def bits_Common_s1 (a0 : Lab) (a1 : Lab) : (Int) → Option ((Int) ⊕ (Int ⊕ (Int)))
 | x10 => (if (decide (x10 < (32 : Int))) = true then ((req ((0 : Int) ≤ x10 ∧ x10 < (32 : Nat))).bind fun _ => ((req ((0 : Int) ≤ x10 ∧ x10 < (32 : Nat))).bind fun _ => (if (((getV a0 x10) ^^^ (getV a1 x10)) != 0) = true then ((iter (bits_Common_s2) ((wrap64 ((8 : Int) * x10)), ((getV a0 x10) ^^^ (getV a1 x10)))).bind fun b31 => (match b31 with | (x28, x29) => some (.inr (.inl x28)))) else some (.inl (wrap64 (x10 + (1 : Int))))))) else some (.inr (.inr x10)))

def bits_Common  (a0 : Lab) (a1 : Lab) : Option Int :=
 ((iter (bits_Common_s1 a0 a1) (0 : Int)).bind fun b12 => (match b12 with | .inl r₀ => some r₀ | .inr x10 => some (256 : Int)))

theorem bits_Common_ok {S : Hp} (a0 : Lab) (a1 : Lab) {r : Int} (h : bits_Common a0 a1 = some r) : Fn Tryz.prog 124 [aggV [sL a0], aggV [sL a1]] S (fun v S' => v = .int .i64 r) := by
 unfold bits_Common at h
 refine fo [.tmp 4] 31 Tryz.func124 Tryz.ntmps124 (fun o F Q hQ hN hret => ?_)
 refine sr (fun _ hK1 => ?_)
 refine st (OS.boxA (by decide) rfl (fun ad2 => ?_))
 refine st (OS.boxA (by decide) rfl (fun ad4 => ?_))
 refine an ?_
 refine nt hK1 ?_
 refine G.seq (fun _ hK6 => ?_)
 refine sr (fun _ hK7 => ?_)
 refine mv ?_
 refine nt hK7 ?_
 refine G.block ?_
 obtain ⟨b12, wb12, ho13⟩ := bind_some' h
 refine G.keep [8, 3, 2] rfl ?_
 refine G.loopK (bits_Common_s1 a0 a1) (fun s₀ E' S' L' => match s₀ with | x10 => S.le S' ∧ E' = [(8, .int .i64 x10), (3, .pointer (some ⟨ad4, 0, none⟩)), (2, .pointer (some ⟨ad2, 0, none⟩))] ∧ Blk ad4 [sL a1] :: Blk ad2 [sL a0] :: F = L') b12 0 (fun E₀ S₀ L₀ => ∃ (x10 : Int), S.le S₀ ∧ b12 = .inr x10 ∧ E₀ = [] ∧ Blk ad4 [sL a1] :: Blk ad2 [sL a0] :: F = L₀) wb12 ?_ ?_ ?_
 ·rintro _ S40 _ ⟨x10, e41, rfl, rfl, rfl⟩
  have h := ho13; clear ho13
  try dsimp only at h
  refine GX.exit_block ?_
  refine GX.then hK6 ?_
  refine sr (fun _ hK42 => ?_)
  refine an ?_
  refine nt hK42 ?_
  refine G.ret ?_
  obtain rfl := Option.some.inj h
  exact hret _ _ _ _ 2 e41 (.cons (.tmp rfl) .nil) rfl rfl
 ·exact ⟨Hp.le_refl _, rfl, rfl⟩
 rintro x10 _ S8 _ ⟨e9, rfl, rfl⟩ out1 h hf1 K1 hK1 hx11
 rw [bits_Common_s1] at h
 refine sr (fun _ hK14 => ?_)
 refine vl (Y.ltI rfl rfl) ?_
 refine nt hK14 ?_
 refine G.seq (fun _ hK15 => ?_)
 refine G.cond _ rfl (fun c16 => ?_) (fun c16 => ?_)
 ·replace h := ite_t c16 h
  refine sk hK15 ?_
  refine G.seq (fun _ hK17 => ?_)
  refine G.block ?_
  refine sr (fun _ hK18 => ?_)
  refine mv ?_
  refine an ?_
  refine nt hK18 ?_
  refine G.seq (fun _ hK19 => ?_)
  obtain ⟨g20, h⟩ := req_bind h
  obtain ⟨g21, h⟩ := req_bind h
  refine G.drawN 8 mixed (by kernel_rfl) ?_
  refine tn 0 rfl hQ (fun _ _ _ => Y.move rfl) ?_
  refine tn 1 rfl hQ (fun _ _ _ => Y.idxA rfl rfl arr23 g20) ?_
  refine tn 2 rfl hQ (fun S₀ X₀ e₀ => Y.loadE (X₀.length + 1)  0 _ _ rfl (Lk rfl) rfl rfl (at_sL _ _ g20) one5) ?_
  refine tn 3 rfl hQ (fun _ _ _ => Y.move rfl) ?_
  refine tn 4 rfl hQ (fun _ _ _ => Y.idxA rfl rfl arr23 g21) ?_
  refine tn 5 rfl hQ (fun S₀ X₀ e₀ => Y.loadE (X₀.length + 0)  0 _ _ rfl (Lk rfl) rfl rfl (at_sL _ _ g21) one5) ?_
  refine tn 6 rfl hQ (fun _ _ _ => Y.xor_u8 (a := (getV a0 x10)) (b := (getV a1 x10)) rfl rfl) ?_
  refine tn 7 rfl hQ (fun _ _ _ => Y.assign rfl) ?_
  refine dn ?_
  refine GX.then hK19 ?_
  refine sr (fun _ hK22 => ?_)
  refine mv ?_
  refine vl (Y.neq_u8 (a := ((getV a0 x10) ^^^ (getV a1 x10))) (b := 0) rfl rfl) ?_
  refine nt hK22 ?_
  refine G.cond _ rfl (fun c23 => ?_) (fun c23 => ?_)
  ·replace h := ite_t c23 h
   refine sr (fun _ hK24 => ?_)
   refine mv ?_
   refine vl (Y.mulI rfl rfl) ?_
   refine an ?_
   refine nt hK24 ?_
   refine G.seq (fun _ hK25 => ?_)
   refine G.block ?_
   obtain ⟨b31, wb31, ho32⟩ := bind_some' h
   refine G.keep [7, 6] rfl ?_
   refine G.loopK (bits_Common_s2) (fun s₀ E' S' L' => match s₀ with | (x28, x29) => S8.le S' ∧ E' = [(7, .int .i64 x28), (6, u8V x29)] ∧ Blk ad4 [sL a1] :: Blk ad2 [sL a0] :: F = L') b31 2 (fun E₀ S₀ L₀ => ∃ (x28 : Int) (x29 : UInt8), S8.le S₀ ∧ b31 = (x28, x29) ∧ E₀ = [(7, .int .i64 x28)] ∧ Blk ad4 [sL a1] :: Blk ad2 [sL a0] :: F = L₀) wb31 ?_ ?_ ?_
   ·rintro _ S37 _ ⟨x28, x29, e38, rfl, rfl, rfl⟩
    have h := ho32; clear ho32
    try dsimp only at h
    refine GX.exit_block ?_
    refine GX.then hK25 ?_
    refine sr (fun _ hK39 => ?_)
    refine mv ?_
    refine an ?_
    refine nt hK39 ?_
    refine G.ret ?_
    obtain rfl := Option.some.inj h
    obtain rfl := hf1 _ rfl
    have h := ho13
    try dsimp only at h
    obtain rfl := Option.some.inj h
    exact hret _ _ _ _ 2 (l2 e9 e38) (.cons (.tmp rfl) .nil) rfl rfl
   ·exact ⟨Hp.le_refl _, rfl, rfl⟩
   rintro ⟨x28, x29⟩ _ S26 _ ⟨e27, rfl, rfl⟩ out2 h hf2 K2 hK2 hx30
   rw [bits_Common_s2] at h
   refine G.seq (fun _ hK33 => ?_)
   refine sr (fun _ hK34 => ?_)
   refine mv ?_
   refine vl (Y.and_u8 (a := x29) (b := 128) rfl rfl) ?_
   refine vl (Y.eql_u8 (a := (x29 &&& 128)) (b := 0) rfl rfl) ?_
   refine nt hK34 ?_
   refine G.cond _ rfl (fun c35 => ?_) (fun c35 => ?_)
   ·replace h := ite_t c35 h
    refine sk hK33 ?_
    refine G.block ?_
    refine sr (fun _ hK36 => ?_)
    refine mv ?_
    refine vl (Y.shl_u8 (a := x29) (c := 1) rfl rfl (by decide)) ?_
    refine an ?_
    refine nt hK36 ?_
    refine G.region ?_
    refine mv ?_
    refine vl (Y.addI rfl rfl) ?_
    refine an ?_
    refine GO.nil ?_
    refine GX.normal_block ?_
    obtain rfl := Option.some.inj h
    refine GX.keep [7, 6] rfl ?_
    exact hK2 _ _ _ _ rfl ⟨e27, rfl, rfl⟩
   replace h := ite_f c35 h
   refine G.exit ?_
   refine GX.exit_then ?_
   obtain rfl := Option.some.inj h
   refine GX.keep [7] rfl ?_
   exact hx30 _ _ _ ⟨_, _, e27, (hf2 _ rfl).symm, rfl, rfl⟩
  replace h := ite_f c23 h
  refine G.skip ?_
  refine GX.normal_block ?_
  refine GX.then hK17 ?_
  refine G.region ?_
  refine vl (Y.addI rfl rfl) ?_
  refine mv ?_
  refine GO.nil ?_
  obtain rfl := Option.some.inj h
  refine GX.keep [8, 3, 2] rfl ?_
  exact hK1 _ _ _ _ rfl ⟨e9, rfl, rfl⟩
 replace h := ite_f c16 h
 refine G.exit ?_
 refine GX.exit_then ?_
 obtain rfl := Option.some.inj h
 refine GX.keep [] rfl ?_
 exact hx11 _ _ _ ⟨_, e9, (hf1 _ rfl).symm, rfl, rfl⟩

/- chirograph/bits.Cut -/
def bits_Cut  (a0 : Lab) (a1 : Int) : Option Pfx :=
 ((req ((0 : Int) ≤ (wrap64 (Int.tdiv (max (0 : Int) (min a1 (256 : Int))) (8 : Int))) ∧ (wrap64 (Int.tdiv (max (0 : Int) (min a1 (256 : Int))) (8 : Int))) ≤ (32 : Nat))).bind fun _ => ((req (List.length (a0.toList.take (Int.toNat (wrap64 (Int.tdiv (max (0 : Int) (min a1 (256 : Int))) (8 : Int))))) ≤ 32)).bind fun _ => (if ((Int.tmod (max (0 : Int) (min a1 (256 : Int))) (8 : Int)) != (0 : Int)) = true then ((req ((0 : Int) ≤ (wrap64 (Int.tdiv (max (0 : Int) (min a1 (256 : Int))) (8 : Int))) ∧ (wrap64 (Int.tdiv (max (0 : Int) (min a1 (256 : Int))) (8 : Int))) < (32 : Nat))).bind fun _ => ((req (0 ≤ (Int.tmod (max (0 : Int) (min a1 (256 : Int))) (8 : Int)))).bind fun _ => ((req ((0 : Int) ≤ (wrap64 (Int.tdiv (max (0 : Int) (min a1 (256 : Int))) (8 : Int))) ∧ (wrap64 (Int.tdiv (max (0 : Int) (min a1 (256 : Int))) (8 : Int))) < (32 : Nat))).bind fun _ => some (⟨(max (0 : Int) (min a1 (256 : Int))), (setV (overV zL (a0.toList.take (Int.toNat (wrap64 (Int.tdiv (max (0 : Int) (min a1 (256 : Int))) (8 : Int)))))) (wrap64 (Int.tdiv (max (0 : Int) (min a1 (256 : Int))) (8 : Int))) ((getV a0 (wrap64 (Int.tdiv (max (0 : Int) (min a1 (256 : Int))) (8 : Int)))) &&& ~~~(hr_u8 255 (Int.tmod (max (0 : Int) (min a1 (256 : Int))) (8 : Int)))))⟩ : Pfx)))) else some (⟨(max (0 : Int) (min a1 (256 : Int))), (overV zL (a0.toList.take (Int.toNat (wrap64 (Int.tdiv (max (0 : Int) (min a1 (256 : Int))) (8 : Int))))))⟩ : Pfx))))

theorem bits_Cut_ok {S : Hp} (a0 : Lab) (a1 : Int) {r : Pfx} (h : bits_Cut a0 a1 = some r) : Fn Tryz.prog 126 [aggV [sL a0], .int .i64 a1] S (fun v S' => v = aggV [sV (.int .i64 r.len), sL r.bits]) := by
 unfold bits_Cut at h
 refine fo [.cell 4 27] 33 Tryz.func126 Tryz.ntmps126 (fun o F Q hQ hN hret => ?_)
 refine sr (fun _ hK1 => ?_)
 refine st (OS.boxA (by decide) rfl (fun ad2 => ?_))
 refine st (OS.alloc _ (by decide) zero27 (fun ad4 => ?_))
 refine nt hK1 ?_
 refine sr (fun _ hK6 => ?_)
 refine mv ?_
 refine vl (Y.minI rfl rfl) ?_
 refine vl (Y.maxI rfl rfl) ?_
 refine an ?_
 refine nt hK6 ?_
 refine sr (fun _ hK7 => ?_)
 refine mv ?_
 refine vl (Y.buildE _ [sV (.int .i64 (max (0 : Int) (min a1 (256 : Int)))), sL zL] strt27 zero27 rfl (.cons 0 1 [sV (.int .i64 (max (0 : Int) (min a1 (256 : Int))))] rfl rfl rfl rfl rfl .nil)) ?_
 refine st (OS.alloc _ (by decide) zero27 (fun ad8 => ?_))
 refine sf 0 2 [sV (.int .i64 (max (0 : Int) (min a1 (256 : Int)))), sL zL] (aggV_cells _) (oI (oL oN)) size27 ?_
 refine nt hK7 ?_
 refine G.seq (fun _ hK10 => ?_)
 obtain ⟨g11, h⟩ := req_bind h
 obtain ⟨g12, h⟩ := req_bind h
 refine G.drawS 5 _ ((fun _ => True) :: Blk ad4 [sV (.int .i64 0), sL zL] :: Blk ad2 [sL a0] :: F) mixed .refl (by kernel_rfl) ?_
 refine tx 0 rfl (.lose .refl) hQ (fun _ _ _ => Y.fieldAddr 1 rfl fld27_1 rfl) ?_
 refine tx 1 rfl (.lose .refl) hQ (fun _ _ _ => Y.sliceArr rfl arr23 (by decide)) ?_
 refine tx 2 rfl (.lose .refl) hQ (fun _ _ _ => Y.move rfl) ?_
 refine tx 3 rfl (.lose .refl) hQ (fun _ _ _ => Y.quoI rfl rfl (by decide)) ?_
 refine tx 4 rfl (.lose .refl) hQ (fun _ _ _ => Y.sliceArrTo rfl rfl arr23 (by decide) g11) ?_
 refine g1 5 ?_
 refine n2 rfl (OS.copyB 0 1 (sL zL) (sL (overV zL (a0.toList.take (Int.toNat (wrap64 (Int.tdiv (max (0 : Int) (min a1 (256 : Int))) (8 : Int))))))) [sV (.int .i64 (max (0 : Int) (min a1 (256 : Int)))), sL (overV zL (a0.toList.take (Int.toNat (wrap64 (Int.tdiv (max (0 : Int) (min a1 (256 : Int))) (8 : Int))))))] zL.toList (by decide) rfl rfl (Blk.srcPart (k := 2) (i := 0) rfl (sL a0) rfl rfl (toList_sL _) (by simp; omega)) rfl rfl rfl (toList_sL _) (by rw [toList_sL, overV_toList]) rfl slc102 (by simp) g12 ⟨⟨[], (.lose .refl), l0⟩, ?_⟩)
 refine dn ?_
 refine GX.then hK10 ?_
 refine G.seq (fun _ hK13 => ?_)
 refine sr (fun _ hK14 => ?_)
 refine mv ?_
 refine vl (Y.remI rfl rfl (by decide)) ?_
 refine vl (Y.neI rfl rfl) ?_
 refine nt hK14 ?_
 refine G.cond _ rfl (fun c15 => ?_) (fun c15 => ?_)
 ·replace h := ite_t c15 h
  obtain ⟨g16, h⟩ := req_bind h
  obtain ⟨g17, h⟩ := req_bind h
  obtain ⟨g18, h⟩ := req_bind h
  refine G.drawS 12 _ ((fun _ => True) :: Blk ad4 [sV (.int .i64 0), sL zL] :: Blk ad2 [sL a0] :: F) mixed .refl (by kernel_rfl) ?_
  refine tx 0 rfl (.lose .refl) hQ (fun _ _ _ => Y.move rfl) ?_
  refine tx 1 rfl (.lose .refl) hQ (fun _ _ _ => Y.quoI rfl rfl (by decide)) ?_
  refine tx 2 rfl (.lose .refl) hQ (fun _ _ _ => Y.move rfl) ?_
  refine tx 3 rfl (.lose .refl) hQ (fun _ _ _ => Y.quoI rfl rfl (by decide)) ?_
  refine tx 4 rfl (.lose .refl) hQ (fun _ _ _ => Y.idxA rfl rfl arr23 g16) ?_
  refine tx 5 rfl (.lose .refl) hQ (fun S₀ X₀ e₀ => Y.loadE (X₀.length + 2)  0 _ _ rfl (Lk rfl) rfl rfl (at_sL _ _ g16) one5) ?_
  refine tx 6 rfl (.lose .refl) hQ (fun _ _ _ => Y.move rfl) ?_
  refine tx 7 rfl (.lose .refl) hQ (fun _ _ _ => Y.remI rfl rfl (by decide)) ?_
  refine tx 8 rfl (.lose .refl) hQ (fun _ _ _ => Y.shr_u8 (a := 255) (c := (Int.tmod (max (0 : Int) (min a1 (256 : Int))) (8 : Int))) rfl rfl g17) ?_
  refine tx 9 rfl (.lose .refl) hQ (fun _ _ _ => Y.andNot_u8 (a := (getV a0 (wrap64 (Int.tdiv (max (0 : Int) (min a1 (256 : Int))) (8 : Int))))) (b := (hr_u8 255 (Int.tmod (max (0 : Int) (min a1 (256 : Int))) (8 : Int)))) rfl rfl) ?_
  refine tx 10 rfl (.lose .refl) hQ (fun _ _ _ => Y.fieldAddr 1 rfl fld27_1 rfl) ?_
  refine tx 11 rfl (.lose .refl) hQ (fun _ _ _ => Y.idxA rfl rfl arr23 g18) ?_
  refine g1 12 ?_
  refine n2 rfl (OS.storeE 0 1 (sL (setV (overV zL (a0.toList.take (Int.toNat (wrap64 (Int.tdiv (max (0 : Int) (min a1 (256 : Int))) (8 : Int)))))) (wrap64 (Int.tdiv (max (0 : Int) (min a1 (256 : Int))) (8 : Int))) ((getV a0 (wrap64 (Int.tdiv (max (0 : Int) (min a1 (256 : Int))) (8 : Int)))) &&& ~~~(hr_u8 255 (Int.tmod (max (0 : Int) (min a1 (256 : Int))) (8 : Int)))))) [sV (.int .i64 (max (0 : Int) (min a1 (256 : Int)))), sL (setV (overV zL (a0.toList.take (Int.toNat (wrap64 (Int.tdiv (max (0 : Int) (min a1 (256 : Int))) (8 : Int)))))) (wrap64 (Int.tdiv (max (0 : Int) (min a1 (256 : Int))) (8 : Int))) ((getV a0 (wrap64 (Int.tdiv (max (0 : Int) (min a1 (256 : Int))) (8 : Int)))) &&& ~~~(hr_u8 255 (Int.tmod (max (0 : Int) (min a1 (256 : Int))) (8 : Int)))))] _ rfl rfl rfl rfl rfl rfl (lt_of_bnd g18) (set_sL _ _ _) rfl size5 ⟨⟨[], (.lose .refl), l0⟩, ?_⟩)
  refine dn ?_
  refine GX.then hK13 ?_
  refine sr (fun _ hK19 => ?_)
  refine lb 0 0 2 [sV (.int .i64 (max (0 : Int) (min a1 (256 : Int)))), sL (setV (overV zL (a0.toList.take (Int.toNat (wrap64 (Int.tdiv (max (0 : Int) (min a1 (256 : Int))) (8 : Int)))))) (wrap64 (Int.tdiv (max (0 : Int) (min a1 (256 : Int))) (8 : Int))) ((getV a0 (wrap64 (Int.tdiv (max (0 : Int) (min a1 (256 : Int))) (8 : Int)))) &&& ~~~(hr_u8 255 (Int.tmod (max (0 : Int) (min a1 (256 : Int))) (8 : Int)))))] row27 ?_
  refine sf 1 2 [sV (.int .i64 (max (0 : Int) (min a1 (256 : Int)))), sL (setV (overV zL (a0.toList.take (Int.toNat (wrap64 (Int.tdiv (max (0 : Int) (min a1 (256 : Int))) (8 : Int)))))) (wrap64 (Int.tdiv (max (0 : Int) (min a1 (256 : Int))) (8 : Int))) ((getV a0 (wrap64 (Int.tdiv (max (0 : Int) (min a1 (256 : Int))) (8 : Int)))) &&& ~~~(hr_u8 255 (Int.tmod (max (0 : Int) (min a1 (256 : Int))) (8 : Int)))))] (aggV_cells _) (oI (oL oN)) size27 ?_
  refine nt hK19 ?_
  refine G.ret ?_
  obtain rfl := Option.some.inj h
  exact hret _ _ _ _ 3 l0 (.cons (.row (k := 1) rfl rfl row27 (by kernel_rfl)) .nil) rfl rfl
 replace h := ite_f c15 h
 refine sk hK13 ?_
 refine sr (fun _ hK20 => ?_)
 refine lb 0 0 2 [sV (.int .i64 (max (0 : Int) (min a1 (256 : Int)))), sL (overV zL (a0.toList.take (Int.toNat (wrap64 (Int.tdiv (max (0 : Int) (min a1 (256 : Int))) (8 : Int))))))] row27 ?_
 refine sf 1 2 [sV (.int .i64 (max (0 : Int) (min a1 (256 : Int)))), sL (overV zL (a0.toList.take (Int.toNat (wrap64 (Int.tdiv (max (0 : Int) (min a1 (256 : Int))) (8 : Int))))))] (aggV_cells _) (oI (oL oN)) size27 ?_
 refine nt hK20 ?_
 refine G.ret ?_
 obtain rfl := Option.some.inj h
 exact hret _ _ _ _ 3 l0 (.cons (.row (k := 1) rfl rfl row27 (by kernel_rfl)) .nil) rfl rfl

/- chirograph/bits.Good -/
def bits_Good  (a0 : Pfx) : Option Bool :=
 ((if (decide ((0 : Int) ≤ a0.len)) = true then (if (decide (a0.len ≤ (256 : Int))) = true then ((bits_Cut a0.bits a0.len).bind fun t9 => some ((t9.len == a0.len) && ((t9.bits == a0.bits) && true))) else some false) else some false).bind fun b6 => some b6)

theorem bits_Good_ok {S : Hp} (a0 : Pfx) {r : Bool} (h : bits_Good a0 = some r) : Fn Tryz.prog 132 [aggV [sV (.int .i64 a0.len), sL a0.bits]] S (fun v S' => v = .bool r) := by
 unfold bits_Good at h
 refine fo [.tmp 2] 20 Tryz.func132 Tryz.ntmps132 (fun o F Q hQ hN hret => ?_)
 refine sr (fun _ hK1 => ?_)
 refine st (OS.boxA (by decide) rfl (fun ad2 => ?_))
 refine an ?_
 refine nt hK1 ?_
 refine G.seq (fun _ hK4 => ?_)
 obtain ⟨b6, wb6, h⟩ := bind_some' h
 refine G.cut (fun E₀ S₀ L₀ => S.le S₀ ∧ E₀ = [(2, .bool b6)] ∧ Blk ad2 [sV (.int .i64 a0.len), sL a0.bits] :: F = L₀) (fun K5 hK5 => ?_) ?_
 ·replace h := wb6
  rcases Bool.eq_false_or_eq_true (decide ((0 : Int) ≤ a0.len)) with c7 | c7
  ·replace h := ite_t c7 h
   rcases Bool.eq_false_or_eq_true (decide (a0.len ≤ (256 : Int))) with c8 | c8
   ·replace h := ite_t c8 h
    obtain ⟨t9, wt9, h⟩ := bind_some' h
    obtain rfl := Option.some.inj h
    refine G.drawN 18 mixed (by kernel_rfl) ?_
    refine tn 0 rfl hQ (fun _ _ _ => Y.fieldAddr 0 rfl fld27_0 rfl) ?_
    refine tn 1 rfl hQ (fun S₀ X₀ e₀ => Y.loadV (X₀.length + 0)  0 _ rfl (Lk rfl) rfl rfl one3) ?_
    refine tn 2 rfl hQ (fun _ _ _ => Y.geI rfl rfl) ?_
    refine tn 3 rfl hQ (fun _ _ _ => Y.move rfl) ?_
    refine tw 4 rfl .refl hQ (gi 6 c7) (fun _ _ _ => Y.fieldAddr 0 rfl fld27_0 rfl) ?_
    refine tw 5 rfl .refl hQ (gi 6 c7) (fun S₀ X₀ e₀ => Y.loadV (X₀.length + 0)  0 _ rfl (Lk rfl) rfl rfl one3) ?_
    refine tw 6 rfl .refl hQ (gi 6 c7) (fun _ _ _ => Y.leI rfl rfl) ?_
    refine tn 7 rfl hQ (fun _ _ _ => Y.pickT _ c7 rfl rfl) ?_
    refine tn 8 rfl hQ (fun _ _ _ => Y.move rfl) ?_
    refine tw 9 rfl .refl hQ (gi 11 c8) (fun _ _ _ => Y.fieldAddr 1 rfl fld27_1 rfl) ?_
    refine tw 10 rfl .refl hQ (gi 11 c8) (fun S₀ X₀ e₀ => Y.loadB (X₀.length + 0)  1 1 [sL a0.bits] rfl (Lk rfl) rfl rfl row23 (by kernel_rfl)) ?_
    refine tw 11 rfl .refl hQ (gi 11 c8) (fun _ _ _ => Y.fieldAddr 0 rfl fld27_0 rfl) ?_
    refine tw 12 rfl .refl hQ (gi 11 c8) (fun S₀ X₀ e₀ => Y.loadV (X₀.length + 0)  0 _ rfl (Lk rfl) rfl rfl one3) ?_
    refine tw 14 rfl .refl hQ (gi 11 c8) (fun S₀ X₀ e₀ => Y.loadB (X₀.length + 0)  0 2 [sV (.int .i64 a0.len), sL a0.bits] rfl (Lk rfl) rfl rfl row27 (by kernel_rfl)) ?_
    refine g1 13 ?_
    refine GD1.on rfl (gi 11 c8) (by kernel_rfl) (cl fb126 (bits_Cut_ok a0.bits a0.len wt9) (fun v14 S15 e16 z17 => ⟨⟨[], .refl, e16⟩, ?_⟩))
    obtain rfl := z17
    refine tw 15 rfl .refl hQ (gi 11 c8) (fun _ _ _ => Y.eqA rfl rfl eqt27 (by decide) (EqV.struct Tryz.underlying27 nh27 (.one (.int .i64 t9.len) (.int .i64 a0.len) (by decide) one3 (cells_get 0 rfl rfl) (cells_get 0 rfl rfl) (EqV.mono (EqV.int _ _ _ _ Tryz.underlying3) (by decide)) (.row (cells [sL t9.bits]) (cells [sL a0.bits]) (by decide) row23 (cells_cut 1 1 rfl rfl (by kernel_rfl)) (cells_cut 1 1 rfl rfl (by kernel_rfl)) (EqV.lab _ _ Tryz.underlying23 one5 Tryz.underlying5) .nil)))) ?_
    refine tn 16 rfl hQ (fun _ _ _ => Y.pickT _ c8 rfl rfl) ?_
    refine tn 17 rfl hQ (fun _ _ _ => Y.assign rfl) ?_
    refine dn ?_
    refine GX.keep [2] rfl ?_
    exact hK5 _ _ _ ⟨e16, rfl, rfl⟩
   replace h := ite_f c8 h
   obtain rfl := Option.some.inj h
   refine G.drawN 18 mixed (by kernel_rfl) ?_
   refine tn 0 rfl hQ (fun _ _ _ => Y.fieldAddr 0 rfl fld27_0 rfl) ?_
   refine tn 1 rfl hQ (fun S₀ X₀ e₀ => Y.loadV (X₀.length + 0)  0 _ rfl (Lk rfl) rfl rfl one3) ?_
   refine tn 2 rfl hQ (fun _ _ _ => Y.geI rfl rfl) ?_
   refine tn 3 rfl hQ (fun _ _ _ => Y.move rfl) ?_
   refine tw 4 rfl .refl hQ (gi 6 c7) (fun _ _ _ => Y.fieldAddr 0 rfl fld27_0 rfl) ?_
   refine tw 5 rfl .refl hQ (gi 6 c7) (fun S₀ X₀ e₀ => Y.loadV (X₀.length + 0)  0 _ rfl (Lk rfl) rfl rfl one3) ?_
   refine tw 6 rfl .refl hQ (gi 6 c7) (fun _ _ _ => Y.leI rfl rfl) ?_
   refine tn 7 rfl hQ (fun _ _ _ => Y.pickT _ c7 rfl rfl) ?_
   refine tn 8 rfl hQ (fun _ _ _ => Y.move rfl) ?_
   refine tf 9 rfl .refl hQ (gn 11 c8) ?_
   refine tf 10 rfl .refl hQ (gn 11 c8) ?_
   refine tf 11 rfl .refl hQ (gn 11 c8) ?_
   refine tf 12 rfl .refl hQ (gn 11 c8) ?_
   refine tf 13 rfl .refl hQ (gn 11 c8) ?_
   refine tf 14 rfl .refl hQ (gn 11 c8) ?_
   refine tf 15 rfl .refl hQ (gn 11 c8) ?_
   refine tn 16 rfl hQ (fun _ _ _ => Y.pickF _ c8 rfl rfl) ?_
   refine tn 17 rfl hQ (fun _ _ _ => Y.assign rfl) ?_
   refine dn ?_
   refine GX.keep [2] rfl ?_
   exact hK5 _ _ _ ⟨l0, rfl, rfl⟩
  replace h := ite_f c7 h
  obtain rfl := Option.some.inj h
  refine G.drawN 18 mixed (by kernel_rfl) ?_
  refine tn 0 rfl hQ (fun _ _ _ => Y.fieldAddr 0 rfl fld27_0 rfl) ?_
  refine tn 1 rfl hQ (fun S₀ X₀ e₀ => Y.loadV (X₀.length + 0)  0 _ rfl (Lk rfl) rfl rfl one3) ?_
  refine tn 2 rfl hQ (fun _ _ _ => Y.geI rfl rfl) ?_
  refine tn 3 rfl hQ (fun _ _ _ => Y.move rfl) ?_
  refine tf 4 rfl .refl hQ (gn 6 c7) ?_
  refine tf 5 rfl .refl hQ (gn 6 c7) ?_
  refine tf 6 rfl .refl hQ (gn 6 c7) ?_
  refine tn 7 rfl hQ (fun _ _ _ => Y.pickF _ c7 rfl rfl) ?_
  refine tn 8 rfl hQ (fun _ _ _ => Y.move rfl) ?_
  refine tf 9 rfl .refl hQ (gn 11 rfl) ?_
  refine tf 10 rfl .refl hQ (gn 11 rfl) ?_
  refine tf 11 rfl .refl hQ (gn 11 rfl) ?_
  refine tf 12 rfl .refl hQ (gn 11 rfl) ?_
  refine tf 13 rfl .refl hQ (gn 11 rfl) ?_
  refine tf 14 rfl .refl hQ (gn 11 rfl) ?_
  refine tf 15 rfl .refl hQ (gn 11 rfl) ?_
  refine tn 16 rfl hQ (fun _ _ _ => Y.pickF _ rfl rfl rfl) ?_
  refine tn 17 rfl hQ (fun _ _ _ => Y.assign rfl) ?_
  refine dn ?_
  refine GX.keep [2] rfl ?_
  exact hK5 _ _ _ ⟨l0, rfl, rfl⟩
 rintro _ S18 _ ⟨e19, rfl, rfl⟩
 refine GX.then hK4 ?_
 refine G.ret ?_
 obtain rfl := Option.some.inj h
 exact hret _ _ _ _ 1 e19 (.cons (.tmp rfl) .nil) rfl rfl

/- chirograph/bits.Order -/
def bits_Order  (a0 : Lab) (a1 : Lab) : Option Int :=
 ((bytes_Compare a0.toList a1.toList).bind fun t16 => some t16)

theorem bits_Order_ok {S : Hp} (a0 : Lab) (a1 : Lab) {r : Int} (h : bits_Order a0 a1 = some r) : Fn Tryz.prog 121 [aggV [sL a0], aggV [sL a1]] S (fun v S' => v = .int .i64 r) := by
 unfold bits_Order at h
 refine fo [.tmp 4] 8 Tryz.func121 Tryz.ntmps121 (fun o F Q hQ hN hret => ?_)
 refine sr (fun _ hK1 => ?_)
 refine st (OS.boxA (by decide) rfl (fun ad2 => ?_))
 refine st (OS.boxA (by decide) rfl (fun ad4 => ?_))
 refine an ?_
 refine nt hK1 ?_
 refine G.seq (fun _ hK6 => ?_)
 refine G.shareB 0 rfl (fun S7 e8 q9 => ?_)
 refine G.shareB 1 rfl (fun S10 e11 q12 => ?_)
 replace q9 := q9.up e11
 obtain ⟨t16, wt16, h⟩ := bind_some' h
 refine G.cut (fun E₀ S₀ L₀ => S10.le S₀ ∧ E₀ = [(4, .int .i64 t16)] ∧ (fun _ => True) :: (fun _ => True) :: F = L₀) (fun K13 hK13 => ?_) ?_
 ·refine G.drawN 4 mixed (by kernel_rfl) ?_
  have q25 := Sls.ofAt (cap := 32) (At.lab (i := 0) q12 rfl rfl) (by simp : _ = 32) (by simp)
  have q35 := Sls.ofAt (cap := 32) (At.lab (i := 0) q9 rfl rfl) (by simp : _ = 32) (by simp)
  refine GDr.any [0, 1] (by kernel_rfl) rfl (AllR.two ?_ ?_)
  ·refine n1 rfl (OS.val (by decide) (Y.sliceArr rfl arr23 (by decide)) ⟨⟨[], .refl, l0⟩, ?_⟩)
   have q26 := Sls.ofAt (cap := 32) (At.lab (i := 0) q9 rfl rfl) (by simp : _ = 32) (by simp)
   refine g1 1 ?_
   refine n1 rfl (OS.val (by decide) (Y.sliceArr rfl arr23 (by decide)) ⟨⟨[], .refl, l0⟩, ?_⟩)
   refine g1 2 ?_
   refine n1 rfl (cl fb181 (bytes_Compare_ok a0.toList a1.toList q25 q26 wt16) (fun v27 S28 e29 z30 => ⟨⟨[], .refl, e29⟩, ?_⟩))
   have q31 := q12.up e29
   have q32 := q9.up e29
   have q33 := q25.up e29
   have q34 := q26.up e29
   obtain rfl := z30
   refine tn 3 rfl hQ (fun _ _ _ => Y.assign rfl) ?_
   refine dn ?_
   refine GX.keep [4] rfl ?_
   exact hK13 _ _ _ ⟨e29, rfl, rfl⟩
  refine n1 rfl (OS.val (by decide) (Y.sliceArr rfl arr23 (by decide)) ⟨⟨[], .refl, l0⟩, ?_⟩)
  have q36 := Sls.ofAt (cap := 32) (At.lab (i := 0) q12 rfl rfl) (by simp : _ = 32) (by simp)
  refine g1 0 ?_
  refine n1 rfl (OS.val (by decide) (Y.sliceArr rfl arr23 (by decide)) ⟨⟨[], .refl, l0⟩, ?_⟩)
  refine g1 2 ?_
  refine n1 rfl (cl fb181 (bytes_Compare_ok a0.toList a1.toList q36 q35 wt16) (fun v37 S38 e39 z40 => ⟨⟨[], .refl, e39⟩, ?_⟩))
  have q41 := q12.up e39
  have q42 := q9.up e39
  have q43 := q35.up e39
  have q44 := q36.up e39
  obtain rfl := z40
  refine tn 3 rfl hQ (fun _ _ _ => Y.assign rfl) ?_
  refine dn ?_
  refine GX.keep [4] rfl ?_
  exact hK13 _ _ _ ⟨e39, rfl, rfl⟩
 rintro _ S45 _ ⟨e46, rfl, rfl⟩
 refine GX.then hK6 ?_
 refine G.ret ?_
 obtain rfl := Option.some.inj h
 exact hret _ _ _ _ 2 (l2 e8 (l2 e11 e46)) (.cons (.tmp rfl) .nil) rfl rfl

/- (chirograph/bits.Prefix).Has -/
def bits_Prefix_Has  (a0 : Pfx) (a1 : Lab) : Option Bool :=
 (((bits_Good a0).bind fun t9 => (if t9 = true then ((bits_Common a0.bits a1).bind fun t15 => some (decide (a0.len ≤ t15))) else some false)).bind fun b8 => some b8)

theorem bits_Prefix_Has_ok {S : Hp} (a0 : Pfx) (a1 : Lab) {r : Bool} (h : bits_Prefix_Has a0 a1 = some r) : Fn Tryz.prog 54 [aggV [sV (.int .i64 a0.len), sL a0.bits], aggV [sL a1]] S (fun v S' => v = .bool r) := by
 unfold bits_Prefix_Has at h
 refine fo [.tmp 4] 16 Tryz.func54 Tryz.ntmps54 (fun o F Q hQ hN hret => ?_)
 refine sr (fun _ hK1 => ?_)
 refine st (OS.boxA (by decide) rfl (fun ad2 => ?_))
 refine st (OS.boxA (by decide) rfl (fun ad4 => ?_))
 refine an ?_
 refine nt hK1 ?_
 refine G.seq (fun _ hK6 => ?_)
 obtain ⟨b8, wb8, h⟩ := bind_some' h
 refine G.cut (fun E₀ S₀ L₀ => S.le S₀ ∧ E₀ = [(4, .bool b8)] ∧ Blk ad4 [sL a1] :: Blk ad2 [sV (.int .i64 a0.len), sL a0.bits] :: F = L₀) (fun K7 hK7 => ?_) ?_
 ·replace h := wb8
  obtain ⟨t9, wt9, h⟩ := bind_some' h
  rcases Bool.eq_false_or_eq_true t9 with c14 | c14
  ·replace h := ite_t c14 h
   obtain ⟨t15, wt15, h⟩ := bind_some' h
   obtain rfl := Option.some.inj h
   refine G.drawN 12 mixed (by kernel_rfl) ?_
   refine tn 0 rfl hQ (fun S₀ X₀ e₀ => Y.loadB (X₀.length + 1)  0 2 [sV (.int .i64 a0.len), sL a0.bits] rfl (Lk rfl) rfl rfl row27 (by kernel_rfl)) ?_
   refine g1 1 ?_
   refine n1 rfl (cl fb132 (bits_Good_ok a0 wt9) (fun v20 S21 e22 z23 => ⟨⟨[], .refl, e22⟩, ?_⟩))
   obtain rfl := z23
   refine tn 2 rfl hQ (fun _ _ _ => Y.move rfl) ?_
   refine tw 3 rfl .refl hQ (gi 7 c14) (fun _ _ _ => Y.fieldAddr 1 rfl fld27_1 rfl) ?_
   refine tw 4 rfl .refl hQ (gi 7 c14) (fun S₀ X₀ e₀ => Y.loadB (X₀.length + 1)  1 1 [sL a0.bits] rfl (Lk rfl) rfl rfl row23 (by kernel_rfl)) ?_
   refine tw 5 rfl .refl hQ (gi 7 c14) (fun S₀ X₀ e₀ => Y.loadB (X₀.length + 0)  0 1 [sL a1] rfl (Lk rfl) rfl rfl row23 (by kernel_rfl)) ?_
   refine tw 7 rfl .refl hQ (gi 7 c14) (fun _ _ _ => Y.fieldAddr 0 rfl fld27_0 rfl) ?_
   refine tw 8 rfl .refl hQ (gi 7 c14) (fun S₀ X₀ e₀ => Y.loadV (X₀.length + 1)  0 _ rfl (Lk rfl) rfl rfl one3) ?_
   refine g1 6 ?_
   refine GD1.on rfl (gi 7 c14) (by kernel_rfl) (cl fb124 (bits_Common_ok a0.bits a1 wt15) (fun v24 S25 e26 z27 => ⟨⟨[], .refl, (l2 e22 e26)⟩, ?_⟩))
   obtain rfl := z27
   refine tw 9 rfl .refl hQ (gi 7 c14) (fun _ _ _ => Y.geI rfl rfl) ?_
   refine tn 10 rfl hQ (fun _ _ _ => Y.pickT _ c14 rfl rfl) ?_
   refine tn 11 rfl hQ (fun _ _ _ => Y.assign rfl) ?_
   refine dn ?_
   refine GX.keep [4] rfl ?_
   exact hK7 _ _ _ ⟨(l2 e22 e26), rfl, rfl⟩
  replace h := ite_f c14 h
  obtain rfl := Option.some.inj h
  refine G.drawN 12 mixed (by kernel_rfl) ?_
  refine tn 0 rfl hQ (fun S₀ X₀ e₀ => Y.loadB (X₀.length + 1)  0 2 [sV (.int .i64 a0.len), sL a0.bits] rfl (Lk rfl) rfl rfl row27 (by kernel_rfl)) ?_
  refine g1 1 ?_
  refine n1 rfl (cl fb132 (bits_Good_ok a0 wt9) (fun v28 S29 e30 z31 => ⟨⟨[], .refl, e30⟩, ?_⟩))
  obtain rfl := z31
  refine tn 2 rfl hQ (fun _ _ _ => Y.move rfl) ?_
  refine tf 3 rfl .refl hQ (gn 7 c14) ?_
  refine tf 4 rfl .refl hQ (gn 7 c14) ?_
  refine tf 5 rfl .refl hQ (gn 7 c14) ?_
  refine tf 6 rfl .refl hQ (gn 7 c14) ?_
  refine tf 7 rfl .refl hQ (gn 7 c14) ?_
  refine tf 8 rfl .refl hQ (gn 7 c14) ?_
  refine tf 9 rfl .refl hQ (gn 7 c14) ?_
  refine tn 10 rfl hQ (fun _ _ _ => Y.pickF _ c14 rfl rfl) ?_
  refine tn 11 rfl hQ (fun _ _ _ => Y.assign rfl) ?_
  refine dn ?_
  refine GX.keep [4] rfl ?_
  exact hK7 _ _ _ ⟨e30, rfl, rfl⟩
 rintro _ S32 _ ⟨e33, rfl, rfl⟩
 refine GX.then hK6 ?_
 refine G.ret ?_
 obtain rfl := Option.some.inj h
 exact hret _ _ _ _ 2 e33 (.cons (.tmp rfl) .nil) rfl rfl

/- chirograph/bits.Bit -/
def bits_Bit  (a0 : Lab) (a1 : Int) : Option Int :=
 ((if (decide (a1 < (0 : Int))) = true then some true else some (decide ((256 : Int) ≤ a1))).bind fun b6 => (if b6 = true then some (0 : Int) else ((req ((0 : Int) ≤ (wrap64 (Int.tdiv a1 (8 : Int))) ∧ (wrap64 (Int.tdiv a1 (8 : Int))) < (32 : Nat))).bind fun _ => ((req (0 ≤ (wrap64 ((7 : Int) - (Int.tmod a1 (8 : Int)))))).bind fun _ => some (bitsI .and .i64 ((hr_u8 (getV a0 (wrap64 (Int.tdiv a1 (8 : Int)))) (wrap64 ((7 : Int) - (Int.tmod a1 (8 : Int))))).toNat : Int) (1 : Int))))))

theorem bits_Bit_ok {S : Hp} (a0 : Lab) (a1 : Int) {r : Int} (h : bits_Bit a0 a1 = some r) : Fn Tryz.prog 48 [aggV [sL a0], .int .i64 a1] S (fun v S' => v = .int .i64 r) := by
 unfold bits_Bit at h
 refine fo [.tmp 4] 21 Tryz.func48 Tryz.ntmps48 (fun o F Q hQ hN hret => ?_)
 refine sr (fun _ hK1 => ?_)
 refine st (OS.boxA (by decide) rfl (fun ad2 => ?_))
 refine an ?_
 refine nt hK1 ?_
 refine G.seq (fun _ hK4 => ?_)
 refine sr (fun _ hK5 => ?_)
 refine mv ?_
 refine vl (Y.ltI rfl rfl) ?_
 refine mv ?_
 obtain ⟨b6, wb6, h⟩ := bind_some' h
 refine GO.joinB 3 10 (b6 = ·) (fun K8 hK8 => ?_) ?_
 ·replace h := wb6
  rcases Bool.eq_false_or_eq_true (decide (a1 < (0 : Int))) with c7 | c7
  ·replace h := ite_t c7 h
   refine gf 7 c7 ?_
   refine gf 7 c7 ?_
   refine vl (Y.pickT _ c7 rfl rfl) ?_
   refine GO.nil ?_
   refine p2 (p2 ?_)
   exact hK8 _ _ l0 (Option.some.inj h).symm
  replace h := ite_f c7 h
  refine gv 7 c7 (Y.move rfl) ?_
  refine gv 7 c7 (Y.geI rfl rfl) ?_
  refine vl (Y.pickF _ c7 rfl rfl) ?_
  refine GO.nil ?_
  refine p2 (p2 ?_)
  exact hK8 _ _ l0 (Option.some.inj h).symm
 rintro _ S9 e10 rfl
 refine nt hK5 ?_
 refine G.cond _ rfl (fun c11 => ?_) (fun c11 => ?_)
 ·replace h := ite_t c11 h
  refine sr (fun _ hK12 => ?_)
  refine an ?_
  refine nt hK12 ?_
  refine G.ret ?_
  obtain rfl := Option.some.inj h
  exact hret _ _ _ _ 1 e10 (.cons (.tmp rfl) .nil) rfl rfl
 replace h := ite_f c11 h
 refine sk hK4 ?_
 refine sr (fun _ hK13 => ?_)
 refine mv ?_
 refine vl (Y.quoI rfl rfl (by decide)) ?_
 obtain ⟨g14, h⟩ := req_bind h
 refine vl (Y.idxA rfl rfl arr23 g14) ?_
 refine vl (Y.loadE 0  0 _ _ rfl rfl rfl rfl (at_sL _ _ g14) one5) ?_
 refine mv ?_
 refine vl (Y.remI rfl rfl (by decide)) ?_
 refine vl (Y.subI rfl rfl) ?_
 obtain ⟨g15, h⟩ := req_bind h
 refine vl (Y.shr_u8 (a := (getV a0 (wrap64 (Int.tdiv a1 (8 : Int))))) (c := (wrap64 ((7 : Int) - (Int.tmod a1 (8 : Int))))) rfl rfl g15) ?_
 refine vl (Y.cv_u8_i64 (a := (hr_u8 (getV a0 (wrap64 (Int.tdiv a1 (8 : Int)))) (wrap64 ((7 : Int) - (Int.tmod a1 (8 : Int)))))) rfl int5 int3) ?_
 refine vl (Y.andI rfl rfl) ?_
 refine an ?_
 refine nt hK13 ?_
 refine G.ret ?_
 obtain rfl := Option.some.inj h
 exact hret _ _ _ _ 1 e10 (.cons (.tmp rfl) .nil) rfl rfl

/- (chirograph/bits.Prefix).Over -/
def bits_Prefix_Over  (a0 : Pfx) (a1 : Pfx) : Option Bool :=
 ((bits_Good a1).bind fun t7 => ((if t7 = true then some (decide (a0.len ≤ a1.len)) else some false).bind fun b12 => ((if b12 = true then ((bits_Prefix_Has a0 a1.bits).bind fun t20 => some t20) else some false).bind fun b17 => some b17)))

theorem bits_Prefix_Over_ok {S : Hp} (a0 : Pfx) (a1 : Pfx) {r : Bool} (h : bits_Prefix_Over a0 a1 = some r) : Fn Tryz.prog 122 [aggV [sV (.int .i64 a0.len), sL a0.bits], aggV [sV (.int .i64 a1.len), sL a1.bits]] S (fun v S' => v = .bool r) := by
 unfold bits_Prefix_Over at h
 refine fo [.tmp 4] 20 Tryz.func122 Tryz.ntmps122 (fun o F Q hQ hN hret => ?_)
 refine sr (fun _ hK1 => ?_)
 refine st (OS.boxA (by decide) rfl (fun ad2 => ?_))
 refine st (OS.boxA (by decide) rfl (fun ad4 => ?_))
 refine an ?_
 refine nt hK1 ?_
 refine sr (fun _ hK6 => ?_)
 refine lb 0 0 2 [sV (.int .i64 a1.len), sL a1.bits] row27 ?_
 obtain ⟨t7, wt7, h⟩ := bind_some' h
 refine st (cl fb132 (bits_Good_ok a1 wt7) (fun v8 S9 e10 z11 => ?_))
 obtain rfl := z11
 refine mv ?_
 obtain ⟨b12, wb12, h⟩ := bind_some' h
 refine GO.joinB 6 13 (b12 = ·) (fun K14 hK14 => ?_) ?_
 ·replace h := wb12
  rcases Bool.eq_false_or_eq_true t7 with c13 | c13
  ·replace h := ite_t c13 h
   refine gv 7 c13 (Y.fieldAddr 0 rfl fld27_0 rfl) ?_
   refine gv 7 c13 (Y.loadV 1  0 _ rfl rfl rfl rfl one3) ?_
   refine gv 7 c13 (Y.fieldAddr 0 rfl fld27_0 rfl) ?_
   refine gv 7 c13 (Y.loadV 0  0 _ rfl rfl rfl rfl one3) ?_
   refine gv 7 c13 (Y.leI rfl rfl) ?_
   refine vl (Y.pickT _ c13 rfl rfl) ?_
   refine GO.nil ?_
   refine p2 (p2 (p2 (p2 (p2 ?_))))
   exact hK14 _ _ l0 (Option.some.inj h).symm
  replace h := ite_f c13 h
  refine gf 7 c13 ?_
  refine gf 7 c13 ?_
  refine gf 7 c13 ?_
  refine gf 7 c13 ?_
  refine gf 7 c13 ?_
  refine vl (Y.pickF _ c13 rfl rfl) ?_
  refine GO.nil ?_
  refine p2 (p2 (p2 (p2 (p2 ?_))))
  exact hK14 _ _ l0 (Option.some.inj h).symm
 rintro _ S15 e16 rfl
 refine mv ?_
 obtain ⟨b17, wb17, h⟩ := bind_some' h
 refine GO.joinB 5 19 (b17 = ·) (fun K19 hK19 => ?_) ?_
 ·replace h := wb17
  rcases Bool.eq_false_or_eq_true b12 with c18 | c18
  ·replace h := ite_t c18 h
   refine gv 14 c18 (Y.loadB 1  0 2 [sV (.int .i64 a0.len), sL a0.bits] rfl rfl rfl rfl row27 (by kernel_rfl)) ?_
   refine gv 14 c18 (Y.fieldAddr 1 rfl fld27_1 rfl) ?_
   refine gv 14 c18 (Y.loadB 0  1 1 [sL a1.bits] rfl rfl rfl rfl row23 (by kernel_rfl)) ?_
   obtain ⟨t20, wt20, h⟩ := bind_some' h
   refine GO.onS 14 rfl (by decide) rfl c18 (cl fb54 (bits_Prefix_Has_ok a0 a1.bits wt20) (fun v21 S22 e23 z24 => ?_))
   obtain rfl := z24
   refine vl (Y.pickT _ c18 rfl rfl) ?_
   refine GO.nil ?_
   refine p2 (p2 (p2 (p2 ?_)))
   exact hK19 _ _ e23 (Option.some.inj h).symm
  replace h := ite_f c18 h
  refine gf 14 c18 ?_
  refine gf 14 c18 ?_
  refine gf 14 c18 ?_
  refine gf 14 c18 ?_
  refine vl (Y.pickF _ c18 rfl rfl) ?_
  refine GO.nil ?_
  refine p2 (p2 (p2 (p2 ?_)))
  exact hK19 _ _ l0 (Option.some.inj h).symm
 rintro _ S25 e26 rfl
 refine an ?_
 refine nt hK6 ?_
 refine G.ret ?_
 obtain rfl := Option.some.inj h
 exact hret _ _ _ _ 2 (l2 e10 (l2 e16 e26)) (.cons (.tmp rfl) .nil) rfl rfl

end
end Go.Ch
end
section
/- Functions of the program: what each comes to, proved. -/
set_option linter.unusedVariables false
set_option linter.unusedSimpArgs false
set_option maxRecDepth 100000
set_option maxHeartbeats 4000000
namespace Go.Ch
open Go.RowKit (wrap64)
open Go.Proofs
noncomputable section
/- chirograph/sha.Joined -/
def sha_Joined_s2 (a1 : (List Str)) (x11 : Int) : (Int × (List UInt8)) → Option ((Int × (List UInt8)) ⊕ (Int × (List UInt8)))
 | (x31, x32) => (if (decide ((0 : Int) ≤ x31)) = true then ((req (0 ≤ x31)).bind fun _ => ((req (List.length x32 + List.length ([(u8I (shrInt (lenI (getI a1 x11)) x31))] : List UInt8) ≤ LIM)).bind fun _ => some (.inl ((wrap64 (x31 - (8 : Int))), (x32 ++ ([(u8I (shrInt (lenI (getI a1 x11)) x31))] : List UInt8)))))) else some (.inr (x31, x32)))

def sha_Joined_s1 (a1 : (List Str)) : (Int × (List UInt8)) → Option ((Int × (List UInt8)) ⊕ (Int × (List UInt8)))
 | (x11, x12) => (if (decide (x11 < (lenI a1))) = true then ((req ((0 : Int) ≤ x11 ∧ x11 < lenI a1)).bind fun _ => ((iter (sha_Joined_s2 a1 x11) ((24 : Int), x12)).bind fun b35 => (match b35 with | (x31, x32) => ((req (List.length x32 + List.length (getI a1 x11) ≤ LIM)).bind fun _ => some (.inl ((wrap64 (x11 + (1 : Int))), (x32 ++ (getI a1 x11)))))))) else some (.inr (x11, x12)))

def sha_Joined  (a0 : UInt8) (a1 : (List Str)) : Option Lab :=
 ((iter (sha_Joined_s1 a1) ((0 : Int), ([a0] : List UInt8))).bind fun b15 => (match b15 with | (x11, x12) => ((sha_Sum x12).bind fun t53 => some t53)))

theorem sha_Joined_ok {S : Hp} (a0 : UInt8) (a1 : (List Str)) {va1 : Value} (qa1 : Sls S va1 a1) {r : Lab} (h : sha_Joined a0 a1 = some r) : Fn Tryz.prog 112 [u8V a0, va1] S (fun v S' => v = aggV [sL r]) := by
 unfold sha_Joined at h
 refine fo [.cell 4 23] 36 Tryz.func112 Tryz.ntmps112 (fun o F Q hQ hN hret => ?_)
 refine sr (fun _ hK1 => ?_)
 refine st (OS.alloc _ (by decide) zero23 (fun ad2 => ?_))
 refine nt hK1 ?_
 refine sr (fun _ hK4 => ?_)
 refine mv ?_
 refine bs ([a0] : List UInt8) el102 (fun v5 => ?_)
 refine an ?_
 refine nt hK4 ?_
 refine G.seq (fun _ hK7 => ?_)
 refine sr (fun _ hK8 => ?_)
 refine mv ?_
 refine vl (Y.lenS rfl qa1 slc58) ?_
 refine mv ?_
 refine nt hK8 ?_
 refine G.block ?_
 obtain ⟨b15, wb15, ho16⟩ := bind_some' h
 refine G.keep [13, 12, 11, 5, 4] rfl ?_
 refine G.loopK (sha_Joined_s1 a1) (fun s₀ E' S' L' => match s₀ with | (x11, x12) => S.le S' ∧ ∃ (v13 : Value), E' = [(13, .int .i64 x11), (12, .int .i64 (lenI a1)), (11, va1), (5, v13), (4, .pointer (some ⟨ad2, 0, none⟩))] ∧ Rw v13 x12 :: Blk ad2 [sL zL] :: F = L') b15 0 (fun E₀ S₀ L₀ => ∃ (x11 : Int) (x12 : (List UInt8)) (v13 : Value), S.le S₀ ∧ b15 = (x11, x12) ∧ E₀ = [(5, v13), (4, .pointer (some ⟨ad2, 0, none⟩))] ∧ Rw v13 x12 :: Blk ad2 [sL zL] :: F = L₀) wb15 ?_ ?_ ?_
 ·rintro _ S50 _ ⟨x11, x12, v13, e51, rfl, rfl, rfl⟩
  have h := ho16; clear ho16
  try dsimp only at h
  refine GX.exit_block ?_
  refine GX.then hK7 ?_
  refine sr (fun _ hK52 => ?_)
  refine mv ?_
  refine vl (Y.convBS rfl (Rw.bsrc (k := 0 ) rfl) byt102 sty9) ?_
  obtain ⟨t53, wt53, h⟩ := bind_some' h
  refine st (cl fb66 (sha_Sum_ok x12 wt53) (fun v54 S55 e56 z57 => ?_))
  obtain rfl := z57
  refine sf 1 1 [sL t53] (aggV_cells _) (oL oN) size23 ?_
  refine nt hK52 ?_
  refine G.ret ?_
  obtain rfl := Option.some.inj h
  exact hret _ _ _ _ 2 (l2 e51 e56) (.cons (.row (k := 1) rfl rfl row23 (by kernel_rfl)) .nil) rfl rfl
 ·exact ⟨Hp.le_refl _, v5, rfl, rfl⟩
 rintro ⟨x11, x12⟩ _ S9 _ ⟨e10, v13, rfl, rfl⟩ out1 h hf1 K1 hK1 hx14
 rw [sha_Joined_s1] at h
 replace qa1 := qa1.up e10
 refine sr (fun _ hK17 => ?_)
 refine vl (Y.ltI rfl rfl) ?_
 refine nt hK17 ?_
 refine G.seq (fun _ hK18 => ?_)
 refine G.cond _ rfl (fun c19 => ?_) (fun c19 => ?_)
 ·replace h := ite_t c19 h
  refine sk hK18 ?_
  refine G.seq (fun _ hK20 => ?_)
  refine G.block ?_
  refine sr (fun _ hK21 => ?_)
  obtain ⟨g22, h⟩ := req_bind h
  obtain ⟨ad23, p24, z25, q26⟩ := Sls.at qa1 g22
  refine vl (Y.idxS rfl z25 rfl slc58 g22) ?_
  refine vl (Y.loadSV _ rfl (At.val (At.part q26 0 1 [sV (strV (getI a1 x11))] rfl rfl)) one9) ?_
  refine an ?_
  refine nt hK21 ?_
  refine G.seq (fun _ hK27 => ?_)
  refine sr (fun _ hK28 => ?_)
  refine an ?_
  refine nt hK28 ?_
  refine G.block ?_
  obtain ⟨b35, wb35, ho36⟩ := bind_some' h
  refine G.keep [8, 7, 13, 12, 11, 5, 4] rfl ?_
  refine G.loopK (sha_Joined_s2 a1 x11) (fun s₀ E' S' L' => match s₀ with | (x31, x32) => S9.le S' ∧ ∃ (v33 : Value), E' = [(8, .int .i64 x31), (7, strV (getI a1 x11)), (13, .int .i64 x11), (12, .int .i64 (lenI a1)), (11, va1), (5, v33), (4, .pointer (some ⟨ad2, 0, none⟩))] ∧ Rw v33 x32 :: Blk ad2 [sL zL] :: F = L') b35 2 (fun E₀ S₀ L₀ => ∃ (x31 : Int) (x32 : (List UInt8)) (v33 : Value), S9.le S₀ ∧ b35 = (x31, x32) ∧ E₀ = [(7, strV (getI a1 x11)), (13, .int .i64 x11), (12, .int .i64 (lenI a1)), (11, va1), (5, v33), (4, .pointer (some ⟨ad2, 0, none⟩))] ∧ Rw v33 x32 :: Blk ad2 [sL zL] :: F = L₀) wb35 ?_ ?_ ?_
  ·rintro _ S46 _ ⟨x31, x32, v33, e47, rfl, rfl, rfl⟩
   have h := ho36; clear ho36
   try dsimp only at h
   replace qa1 := qa1.up e47
   refine GX.exit_block ?_
   refine GX.then hK27 ?_
   refine G.region ?_
   refine mv ?_
   refine mv ?_
   obtain ⟨g48, h⟩ := req_bind h
   refine st (OS.append (xs := x32) (ys := (getI a1 x11)) 0 (by decide) rfl rfl rfl strV.src el102 src9 g48 (fun v49 => ?_))
   refine an ?_
   refine GO.nil ?_
   refine GX.normal_block ?_
   refine GX.then hK20 ?_
   refine G.region ?_
   refine vl (Y.addI rfl rfl) ?_
   refine mv ?_
   refine GO.nil ?_
   obtain rfl := Option.some.inj h
   refine GX.keep [13, 12, 11, 5, 4] rfl ?_
   exact hK1 _ _ _ _ rfl ⟨(l2 e10 e47), v49, rfl, rfl⟩
  ·exact ⟨Hp.le_refl _, v13, rfl, rfl⟩
  rintro ⟨x31, x32⟩ _ S29 _ ⟨e30, v33, rfl, rfl⟩ out2 h hf2 K2 hK2 hx34
  rw [sha_Joined_s2] at h
  replace qa1 := qa1.up e30
  refine G.seq (fun _ hK37 => ?_)
  refine sr (fun _ hK38 => ?_)
  refine mv ?_
  refine vl (Y.geI rfl rfl) ?_
  refine nt hK38 ?_
  refine G.cond _ rfl (fun c39 => ?_) (fun c39 => ?_)
  ·replace h := ite_t c39 h
   refine sk hK37 ?_
   refine G.seq (fun _ hK40 => ?_)
   refine G.block ?_
   refine G.region ?_
   refine mv ?_
   refine mv ?_
   refine vl (Y.lenStr (v := (getI a1 x11)) rfl sty9) ?_
   refine mv ?_
   obtain ⟨g41, h⟩ := req_bind h
   refine vl (Y.shr_i64 rfl rfl g41) ?_
   refine vl (Y.cv_i64_u8 (a := (shrInt (lenI (getI a1 x11)) x31)) rfl int3 int5) ?_
   refine bs ([(u8I (shrInt (lenI (getI a1 x11)) x31))] : List UInt8) el102 (fun v42 => ?_)
   obtain ⟨g44, h⟩ := req_bind h
   refine st (OS.append (xs := x32) (ys := ([(u8I (shrInt (lenI (getI a1 x11)) x31))] : List UInt8)) 1 (by decide) rfl rfl rfl (Rw.src (k := 0) rfl) el102 src102 g44 (fun v45 => ?_))
   refine an ?_
   refine GO.nil ?_
   refine GX.normal_block ?_
   refine GX.then hK40 ?_
   refine G.region ?_
   refine mv ?_
   refine vl (Y.subI rfl rfl) ?_
   refine an ?_
   refine GO.nil ?_
   obtain rfl := Option.some.inj h
   refine GX.keep [8, 7, 13, 12, 11, 5, 4] rfl ?_
   refine GX.less 1 rfl ?_
   exact hK2 _ _ _ _ rfl ⟨e30, v45, rfl, rfl⟩
  replace h := ite_f c39 h
  refine G.exit ?_
  refine GX.exit_then ?_
  obtain rfl := Option.some.inj h
  refine GX.keep [7, 13, 12, 11, 5, 4] rfl ?_
  exact hx34 _ _ _ ⟨_, _, _, e30, (hf2 _ rfl).symm, rfl, rfl⟩
 replace h := ite_f c19 h
 refine G.exit ?_
 refine GX.exit_then ?_
 obtain rfl := Option.some.inj h
 refine GX.keep [5, 4] rfl ?_
 exact hx14 _ _ _ ⟨_, _, _, e10, (hf1 _ rfl).symm, rfl, rfl⟩

end
end Go.Ch
end
section
/- Functions of the program: what each comes to, proved. -/
set_option linter.unusedVariables false
set_option linter.unusedSimpArgs false
set_option maxRecDepth 100000
set_option maxHeartbeats 4000000
namespace Go.Ch
open Go.RowKit (wrap64)
open Go.Proofs
noncomputable section
/- chirograph/code.Open -/
def code_Open  (a0 : Str) : Option Rd :=
 (if (decide ((65536 : Int) < (lenI a0))) = true then some (⟨a0, 0, (2 : Int)⟩ : Rd) else some (⟨a0, 0, 0⟩ : Rd))

theorem code_Open_ok {S : Hp} (a0 : Str) {r : Rd} (h : code_Open a0 = some r) : FnN Tryz.prog 85 [strV a0] S (fun v S' A' => ∃ b, v = .pointer (some ⟨b, 0, none⟩) ∧ A' = Blk b [sV (strV r.s), sV (.int .i64 r.at_), sV (.int .i64 r.err)]) := by
 unfold code_Open at h
 refine Fn.ofN [.tmp 2] 14 Tryz.func85 rfl Tryz.ntmps85 (Nat.le_of_ble_eq_true rfl) rfl (fun o F Q hQ hN hret => ?_)
 refine sr (fun _ hK1 => ?_)
 refine an ?_
 refine nt hK1 ?_
 refine sr (fun _ hK2 => ?_)
 refine mv ?_
 refine vl (Y.buildE _ [sV (strV a0), sV (.int .i64 0), sV (.int .i64 0)] strt223 zero223 rfl (.cons 0 1 [sV (strV a0)] rfl rfl rfl rfl rfl .nil)) ?_
 refine st (OS.boxA (by decide) rfl (fun ad3 => ?_))
 refine an ?_
 refine nt hK2 ?_
 refine G.seq (fun _ hK5 => ?_)
 refine sr (fun _ hK6 => ?_)
 refine mv ?_
 refine vl (Y.lenStr (v := a0) rfl sty9) ?_
 refine vl (Y.gtI rfl rfl) ?_
 refine nt hK6 ?_
 refine G.cond _ rfl (fun c7 => ?_) (fun c7 => ?_)
 ·replace h := ite_t c7 h
  refine G.region ?_
  refine mv ?_
  refine vl (Y.nilCheck rfl) ?_
  refine vl (Y.fieldAddr 2 rfl fld223_2 rfl) ?_
  refine so 0 2 1 [sV (strV a0), sV (.int .i64 0), sV (.int .i64 (2 : Int))] (r := [sV (.int .i64 (2 : Int))]) rfl (oI oN) size38 ?_
  refine nt hK5 ?_
  refine sr (fun _ hK8 => ?_)
  refine mv ?_
  refine an ?_
  refine nt hK8 ?_
  refine G.ret ?_
  obtain rfl := Option.some.inj h
  exact hret _ _ _ _ _ 0 l0 (.cons (.tmp rfl) .nil) ⟨_, rfl, rfl⟩ rfl
 replace h := ite_f c7 h
 refine sk hK5 ?_
 refine sr (fun _ hK9 => ?_)
 refine mv ?_
 refine an ?_
 refine nt hK9 ?_
 refine G.ret ?_
 obtain rfl := Option.some.inj h
 exact hret _ _ _ _ _ 0 l0 (.cons (.tmp rfl) .nil) ⟨_, rfl, rfl⟩ rfl

/- (*chirograph/code.Reader).fail -/
def code_Reader_fail  (a0 : Rd) (a1 : Int) : Option Rd :=
 (if (a0.err == (0 : Int)) = true then some (⟨a0.s, a0.at_, a1⟩ : Rd) else some a0)

theorem code_Reader_fail_ok {S : Hp} (a0 : Rd) (a1 : Int) {b0 : Nat} {r : Rd} (h : code_Reader_fail a0 a1 = some r) : FnP Tryz.prog 165 [.pointer (some ⟨b0, 0, none⟩), .int .i64 a1] S (Blk b0 [sV (strV a0.s), sV (.int .i64 a0.at_), sV (.int .i64 a0.err)]) (fun v S' A' => v = .tuple #[] ∧ A' = Blk b0 [sV (strV r.s), sV (.int .i64 r.at_), sV (.int .i64 r.err)]) := by
 unfold code_Reader_fail at h
 refine Fn.ofP [] 13 Tryz.func165 rfl Tryz.ntmps165 (Nat.le_of_ble_eq_true rfl) rfl (fun o F Q hQ hN hret => ?_)
 refine sr (fun _ hK1 => ?_)
 refine mv ?_
 refine vl (Y.nilCheck rfl) ?_
 refine vl (Y.fieldAddr 2 rfl fld223_2 rfl) ?_
 refine lv 0 2 one38 ?_
 refine vl (Y.eqI rfl rfl) ?_
 refine nt hK1 ?_
 refine G.cond _ rfl (fun c2 => ?_) (fun c2 => ?_)
 ·replace h := ite_t c2 h
  refine G.region ?_
  refine mv ?_
  refine mv ?_
  refine vl (Y.nilCheck rfl) ?_
  refine vl (Y.fieldAddr 2 rfl fld223_2 rfl) ?_
  refine so 0 2 1 [sV (strV a0.s), sV (.int .i64 a0.at_), sV (.int .i64 a1)] (r := [sV (.int .i64 a1)]) rfl (oI oN) size38 ?_
  refine GO.nil ?_
  refine GX.fall hN ?_
  obtain rfl := Option.some.inj h
  exact hret _ _ _ _ _ 0 l0 .nil ⟨rfl, rfl⟩ rfl
 replace h := ite_f c2 h
 refine G.skip ?_
 refine GX.fall hN ?_
 obtain rfl := Option.some.inj h
 exact hret _ _ _ _ _ 0 l0 .nil ⟨rfl, rfl⟩ rfl

/- (*chirograph/code.Reader).take -/
def code_Reader_take  (a0 : Rd) (a1 : Int) : Option (Str × Rd) :=
 ((if (a0.err == (0 : Int)) = true then some (decide ((wrap64 ((lenI a0.s) - a0.at_)) < a1)) else some false).bind fun b5 => (if b5 = true then (if ((5 : Int) != (0 : Int)) = true then some (([] : Str), (⟨a0.s, a0.at_, (5 : Int)⟩ : Rd)) else ((req ((0 : Int) ≤ (wrap64 ((wrap64 (a0.at_ + a1)) - a1)) ∧ (wrap64 ((wrap64 (a0.at_ + a1)) - a1)) ≤ (wrap64 (a0.at_ + a1)) ∧ (wrap64 (a0.at_ + a1)) ≤ lenI a0.s)).bind fun _ => some ((cutL a0.s (wrap64 ((wrap64 (a0.at_ + a1)) - a1)) (wrap64 (a0.at_ + a1))), (⟨a0.s, (wrap64 (a0.at_ + a1)), (5 : Int)⟩ : Rd)))) else (if (a0.err != (0 : Int)) = true then some (([] : Str), a0) else ((req ((0 : Int) ≤ (wrap64 ((wrap64 (a0.at_ + a1)) - a1)) ∧ (wrap64 ((wrap64 (a0.at_ + a1)) - a1)) ≤ (wrap64 (a0.at_ + a1)) ∧ (wrap64 (a0.at_ + a1)) ≤ lenI a0.s)).bind fun _ => some ((cutL a0.s (wrap64 ((wrap64 (a0.at_ + a1)) - a1)) (wrap64 (a0.at_ + a1))), (⟨a0.s, (wrap64 (a0.at_ + a1)), a0.err⟩ : Rd))))))

theorem code_Reader_take_ok {S : Hp} (a0 : Rd) (a1 : Int) {b0 : Nat} {r : Str × Rd} (h : code_Reader_take a0 a1 = some r) : FnP Tryz.prog 168 [.pointer (some ⟨b0, 0, none⟩), .int .i64 a1] S (Blk b0 [sV (strV a0.s), sV (.int .i64 a0.at_), sV (.int .i64 a0.err)]) (fun v S' A' => v = strV r.1 ∧ A' = Blk b0 [sV (strV r.2.s), sV (.int .i64 r.2.at_), sV (.int .i64 r.2.err)]) := by
 unfold code_Reader_take at h
 refine Fn.ofP [.tmp 4] 55 Tryz.func168 rfl Tryz.ntmps168 (Nat.le_of_ble_eq_true rfl) rfl (fun o F Q hQ hN hret => ?_)
 refine sr (fun _ hK1 => ?_)
 refine an ?_
 refine nt hK1 ?_
 refine G.seq (fun _ hK2 => ?_)
 refine G.seq (fun _ hK3 => ?_)
 obtain ⟨b5, wb5, h⟩ := bind_some' h
 refine G.cut (fun E₀ S₀ L₀ => S.le S₀ ∧ E₀ = [(23, .bool b5), (0, .pointer (some ⟨b0, 0, none⟩)), (1, .int .i64 a1)] ∧ Blk b0 [sV (strV a0.s), sV (.int .i64 a0.at_), sV (.int .i64 a0.err)] :: F = L₀) (fun K4 hK4 => ?_) ?_
 ·replace h := wb5
  rcases Bool.eq_false_or_eq_true (a0.err == (0 : Int)) with c6 | c6
  ·replace h := ite_t c6 h
   obtain rfl := Option.some.inj h
   refine G.drawN 19 mixed (by kernel_rfl) ?_
   refine tn 0 rfl hQ (fun _ _ _ => Y.move rfl) ?_
   refine tn 1 rfl hQ (fun _ _ _ => Y.nilCheck rfl) ?_
   refine tn 2 rfl hQ (fun _ _ _ => Y.fieldAddr 2 rfl fld223_2 rfl) ?_
   refine tn 3 rfl hQ (fun S₀ X₀ e₀ => Y.loadV (X₀.length + 0)  2 _ rfl (Lk rfl) rfl rfl one38) ?_
   refine tn 4 rfl hQ (fun _ _ _ => Y.eqI rfl rfl) ?_
   refine tn 5 rfl hQ (fun _ _ _ => Y.move rfl) ?_
   refine tw 6 rfl .refl hQ (gi 10 c6) (fun _ _ _ => Y.move rfl) ?_
   refine tw 7 rfl .refl hQ (gi 10 c6) (fun _ _ _ => Y.move rfl) ?_
   refine tw 8 rfl .refl hQ (gi 10 c6) (fun _ _ _ => Y.nilCheck rfl) ?_
   refine tw 9 rfl .refl hQ (gi 10 c6) (fun _ _ _ => Y.fieldAddr 0 rfl fld223_0 rfl) ?_
   refine tw 10 rfl .refl hQ (gi 10 c6) (fun S₀ X₀ e₀ => Y.loadV (X₀.length + 0)  0 _ rfl (Lk rfl) rfl rfl one9) ?_
   refine tw 11 rfl .refl hQ (gi 10 c6) (fun _ _ _ => Y.lenStr (v := a0.s) rfl sty9) ?_
   refine tw 12 rfl .refl hQ (gi 10 c6) (fun _ _ _ => Y.move rfl) ?_
   refine tw 13 rfl .refl hQ (gi 10 c6) (fun _ _ _ => Y.nilCheck rfl) ?_
   refine tw 14 rfl .refl hQ (gi 10 c6) (fun _ _ _ => Y.fieldAddr 1 rfl fld223_1 rfl) ?_
   refine tw 15 rfl .refl hQ (gi 10 c6) (fun S₀ X₀ e₀ => Y.loadV (X₀.length + 0)  1 _ rfl (Lk rfl) rfl rfl one3) ?_
   refine tw 16 rfl .refl hQ (gi 10 c6) (fun _ _ _ => Y.subI rfl rfl) ?_
   refine tw 17 rfl .refl hQ (gi 10 c6) (fun _ _ _ => Y.gtI rfl rfl) ?_
   refine tn 18 rfl hQ (fun _ _ _ => Y.pickT _ c6 rfl rfl) ?_
   refine dn ?_
   refine GX.keep [23, 0, 1] rfl ?_
   exact hK4 _ _ _ ⟨l0, rfl, rfl⟩
  replace h := ite_f c6 h
  obtain rfl := Option.some.inj h
  refine G.drawN 19 mixed (by kernel_rfl) ?_
  refine tn 0 rfl hQ (fun _ _ _ => Y.move rfl) ?_
  refine tn 1 rfl hQ (fun _ _ _ => Y.nilCheck rfl) ?_
  refine tn 2 rfl hQ (fun _ _ _ => Y.fieldAddr 2 rfl fld223_2 rfl) ?_
  refine tn 3 rfl hQ (fun S₀ X₀ e₀ => Y.loadV (X₀.length + 0)  2 _ rfl (Lk rfl) rfl rfl one38) ?_
  refine tn 4 rfl hQ (fun _ _ _ => Y.eqI rfl rfl) ?_
  refine tn 5 rfl hQ (fun _ _ _ => Y.move rfl) ?_
  refine tf 6 rfl .refl hQ (gn 10 c6) ?_
  refine tf 7 rfl .refl hQ (gn 10 c6) ?_
  refine tf 8 rfl .refl hQ (gn 10 c6) ?_
  refine tf 9 rfl .refl hQ (gn 10 c6) ?_
  refine tf 10 rfl .refl hQ (gn 10 c6) ?_
  refine tf 11 rfl .refl hQ (gn 10 c6) ?_
  refine tf 12 rfl .refl hQ (gn 10 c6) ?_
  refine tf 13 rfl .refl hQ (gn 10 c6) ?_
  refine tf 14 rfl .refl hQ (gn 10 c6) ?_
  refine tf 15 rfl .refl hQ (gn 10 c6) ?_
  refine tf 16 rfl .refl hQ (gn 10 c6) ?_
  refine tf 17 rfl .refl hQ (gn 10 c6) ?_
  refine tn 18 rfl hQ (fun _ _ _ => Y.pickF _ c6 rfl rfl) ?_
  refine dn ?_
  refine GX.keep [23, 0, 1] rfl ?_
  exact hK4 _ _ _ ⟨l0, rfl, rfl⟩
 rintro _ S7 _ ⟨e8, rfl, rfl⟩
 refine GX.then hK3 ?_
 refine G.cond _ rfl (fun c9 => ?_) (fun c9 => ?_)
 ·replace h := ite_t c9 h
  refine G.region ?_
  refine mv ?_
  refine vl (Y.nilCheck rfl) ?_
  refine vl (Y.fieldAddr 2 rfl fld223_2 rfl) ?_
  refine so 0 2 1 [sV (strV a0.s), sV (.int .i64 a0.at_), sV (.int .i64 (5 : Int))] (r := [sV (.int .i64 (5 : Int))]) rfl (oI oN) size38 ?_
  refine nt hK2 ?_
  refine G.seq (fun _ hK10 => ?_)
  refine sr (fun _ hK11 => ?_)
  refine mv ?_
  refine vl (Y.nilCheck rfl) ?_
  refine vl (Y.fieldAddr 2 rfl fld223_2 rfl) ?_
  refine lv 0 2 one38 ?_
  refine vl (Y.neI rfl rfl) ?_
  refine nt hK11 ?_
  refine G.cond _ rfl (fun c12 => ?_) (fun c12 => ?_)
  ·replace h := ite_t c12 h
   refine sr (fun _ hK13 => ?_)
   refine an ?_
   refine nt hK13 ?_
   refine G.ret ?_
   obtain rfl := Option.some.inj h
   exact hret _ _ _ _ _ 0 e8 (.cons (.tmp rfl) .nil) ⟨rfl, rfl⟩ rfl
  replace h := ite_f c12 h
  refine sk hK10 ?_
  refine sr (fun _ hK14 => ?_)
  refine mv ?_
  refine vl (Y.nilCheck rfl) ?_
  refine vl (Y.fieldAddr 1 rfl fld223_1 rfl) ?_
  refine lv 0 1 one3 ?_
  refine mv ?_
  refine vl (Y.addI rfl rfl) ?_
  refine vl (Y.nilCheck rfl) ?_
  refine vl (Y.fieldAddr 1 rfl fld223_1 rfl) ?_
  refine so 0 1 1 [sV (strV a0.s), sV (.int .i64 (wrap64 (a0.at_ + a1))), sV (.int .i64 (5 : Int))] (r := [sV (.int .i64 (wrap64 (a0.at_ + a1)))]) rfl (oI oN) size3 ?_
  refine nt hK14 ?_
  refine G.seq (fun _ hK15 => ?_)
  obtain ⟨g16, h⟩ := req_bind h
  refine G.drawN 16 mixed (by kernel_rfl) ?_
  refine tn 0 rfl hQ (fun _ _ _ => Y.move rfl) ?_
  refine tn 1 rfl hQ (fun _ _ _ => Y.nilCheck rfl) ?_
  refine tn 2 rfl hQ (fun _ _ _ => Y.fieldAddr 0 rfl fld223_0 rfl) ?_
  refine tn 3 rfl hQ (fun S₀ X₀ e₀ => Y.loadV (X₀.length + 0)  0 _ rfl (Lk rfl) rfl rfl one9) ?_
  refine tn 4 rfl hQ (fun _ _ _ => Y.move rfl) ?_
  refine tn 5 rfl hQ (fun _ _ _ => Y.nilCheck rfl) ?_
  refine tn 6 rfl hQ (fun _ _ _ => Y.fieldAddr 1 rfl fld223_1 rfl) ?_
  refine tn 7 rfl hQ (fun S₀ X₀ e₀ => Y.loadV (X₀.length + 0)  1 _ rfl (Lk rfl) rfl rfl one3) ?_
  refine tn 8 rfl hQ (fun _ _ _ => Y.move rfl) ?_
  refine tn 9 rfl hQ (fun _ _ _ => Y.subI rfl rfl) ?_
  refine tn 10 rfl hQ (fun _ _ _ => Y.move rfl) ?_
  refine tn 11 rfl hQ (fun _ _ _ => Y.nilCheck rfl) ?_
  refine tn 12 rfl hQ (fun _ _ _ => Y.fieldAddr 1 rfl fld223_1 rfl) ?_
  refine tn 13 rfl hQ (fun S₀ X₀ e₀ => Y.loadV (X₀.length + 0)  1 _ rfl (Lk rfl) rfl rfl one3) ?_
  refine tn 14 rfl hQ (fun _ _ _ => Y.sliceStr (a := a0.s) (wrap64 ((wrap64 (a0.at_ + a1)) - a1)) (wrap64 (a0.at_ + a1)) (some (.int .i64 (wrap64 ((wrap64 (a0.at_ + a1)) - a1)))) (some (.int .i64 (wrap64 (a0.at_ + a1)))) rfl sty9 rfl rfl (.inr ⟨_, rfl⟩) (.inr ⟨_, rfl⟩) g16) ?_
  refine tn 15 rfl hQ (fun _ _ _ => Y.assign rfl) ?_
  refine dn ?_
  refine GX.then hK15 ?_
  refine G.ret ?_
  obtain rfl := Option.some.inj h
  exact hret _ _ _ _ _ 0 e8 (.cons (.tmp rfl) .nil) ⟨rfl, rfl⟩ rfl
 replace h := ite_f c9 h
 refine sk hK2 ?_
 refine G.seq (fun _ hK17 => ?_)
 refine sr (fun _ hK18 => ?_)
 refine mv ?_
 refine vl (Y.nilCheck rfl) ?_
 refine vl (Y.fieldAddr 2 rfl fld223_2 rfl) ?_
 refine lv 0 2 one38 ?_
 refine vl (Y.neI rfl rfl) ?_
 refine nt hK18 ?_
 refine G.cond _ rfl (fun c19 => ?_) (fun c19 => ?_)
 ·replace h := ite_t c19 h
  refine sr (fun _ hK20 => ?_)
  refine an ?_
  refine nt hK20 ?_
  refine G.ret ?_
  obtain rfl := Option.some.inj h
  exact hret _ _ _ _ _ 0 e8 (.cons (.tmp rfl) .nil) ⟨rfl, rfl⟩ rfl
 replace h := ite_f c19 h
 refine sk hK17 ?_
 refine sr (fun _ hK21 => ?_)
 refine mv ?_
 refine vl (Y.nilCheck rfl) ?_
 refine vl (Y.fieldAddr 1 rfl fld223_1 rfl) ?_
 refine lv 0 1 one3 ?_
 refine mv ?_
 refine vl (Y.addI rfl rfl) ?_
 refine vl (Y.nilCheck rfl) ?_
 refine vl (Y.fieldAddr 1 rfl fld223_1 rfl) ?_
 refine so 0 1 1 [sV (strV a0.s), sV (.int .i64 (wrap64 (a0.at_ + a1))), sV (.int .i64 a0.err)] (r := [sV (.int .i64 (wrap64 (a0.at_ + a1)))]) rfl (oI oN) size3 ?_
 refine nt hK21 ?_
 refine G.seq (fun _ hK22 => ?_)
 obtain ⟨g23, h⟩ := req_bind h
 refine G.drawN 16 mixed (by kernel_rfl) ?_
 refine tn 0 rfl hQ (fun _ _ _ => Y.move rfl) ?_
 refine tn 1 rfl hQ (fun _ _ _ => Y.nilCheck rfl) ?_
 refine tn 2 rfl hQ (fun _ _ _ => Y.fieldAddr 0 rfl fld223_0 rfl) ?_
 refine tn 3 rfl hQ (fun S₀ X₀ e₀ => Y.loadV (X₀.length + 0)  0 _ rfl (Lk rfl) rfl rfl one9) ?_
 refine tn 4 rfl hQ (fun _ _ _ => Y.move rfl) ?_
 refine tn 5 rfl hQ (fun _ _ _ => Y.nilCheck rfl) ?_
 refine tn 6 rfl hQ (fun _ _ _ => Y.fieldAddr 1 rfl fld223_1 rfl) ?_
 refine tn 7 rfl hQ (fun S₀ X₀ e₀ => Y.loadV (X₀.length + 0)  1 _ rfl (Lk rfl) rfl rfl one3) ?_
 refine tn 8 rfl hQ (fun _ _ _ => Y.move rfl) ?_
 refine tn 9 rfl hQ (fun _ _ _ => Y.subI rfl rfl) ?_
 refine tn 10 rfl hQ (fun _ _ _ => Y.move rfl) ?_
 refine tn 11 rfl hQ (fun _ _ _ => Y.nilCheck rfl) ?_
 refine tn 12 rfl hQ (fun _ _ _ => Y.fieldAddr 1 rfl fld223_1 rfl) ?_
 refine tn 13 rfl hQ (fun S₀ X₀ e₀ => Y.loadV (X₀.length + 0)  1 _ rfl (Lk rfl) rfl rfl one3) ?_
 refine tn 14 rfl hQ (fun _ _ _ => Y.sliceStr (a := a0.s) (wrap64 ((wrap64 (a0.at_ + a1)) - a1)) (wrap64 (a0.at_ + a1)) (some (.int .i64 (wrap64 ((wrap64 (a0.at_ + a1)) - a1)))) (some (.int .i64 (wrap64 (a0.at_ + a1)))) rfl sty9 rfl rfl (.inr ⟨_, rfl⟩) (.inr ⟨_, rfl⟩) g23) ?_
 refine tn 15 rfl hQ (fun _ _ _ => Y.assign rfl) ?_
 refine dn ?_
 refine GX.then hK22 ?_
 refine G.ret ?_
 obtain rfl := Option.some.inj h
 exact hret _ _ _ _ _ 0 e8 (.cons (.tmp rfl) .nil) ⟨rfl, rfl⟩ rfl

/- (*chirograph/code.Reader).Number -/
def code_Reader_Number_s1 (t3 : Str × Rd) (t27 : Str × Rd) : (Int × Int) → Option ((Int × Int) ⊕ (Int × Rd ⊕ (Int × Int)))
 | (x36, x37) => (if (decide (x36 < (lenI t27.1))) = true then ((req ((0 : Int) ≤ x36 ∧ x36 < lenI t27.1)).bind fun _ => ((if (x36 == (0 : Int)) = true then ((if ((getI t27.1 x36) == 0) = true then some true else ((if (((getI t3.1 (0 : Int)).toNat : Int) == (8 : Int)) = true then some (decide (127 < (getI t27.1 x36))) else some false).bind fun b58 => some b58)).bind fun b55 => some b55) else some false).bind fun b52 => (if b52 = true then ((code_Reader_fail t27.2 (4 : Int)).bind fun t69 => some (.inr (.inl ((0 : Int), t69)))) else some (.inl ((wrap64 (x36 + (1 : Int))), (bitsI .or .i64 (shlInt x37 8) ((getI t27.1 x36).toNat : Int))))))) else some (.inr (.inr (x36, x37))))

def code_Reader_Number  (a0 : Rd) : Option (Int × Rd) :=
 ((code_Reader_take a0 (1 : Int)).bind fun t3 => (if (t3.1 == ([] : Str)) = true then some ((0 : Int), t3.2) else ((req ((0 : Int) ≤ (0 : Int) ∧ (0 : Int) < lenI t3.1)).bind fun _ => (if (decide ((8 : Int) < ((getI t3.1 (0 : Int)).toNat : Int))) = true then ((code_Reader_fail t3.2 (4 : Int)).bind fun t18 => some ((0 : Int), t18)) else ((code_Reader_take t3.2 ((getI t3.1 (0 : Int)).toNat : Int)).bind fun t27 => ((iter (code_Reader_Number_s1 t3 t27) ((0 : Int), (0 : Int))).bind fun b39 => (match b39 with | .inl r₀ => some r₀ | .inr (x36, x37) => some (x37, t27.2))))))))

theorem code_Reader_Number_ok {S : Hp} (a0 : Rd) {b0 : Nat} {r : Int × Rd} (h : code_Reader_Number a0 = some r) : FnP Tryz.prog 92 [.pointer (some ⟨b0, 0, none⟩)] S (Blk b0 [sV (strV a0.s), sV (.int .i64 a0.at_), sV (.int .i64 a0.err)]) (fun v S' A' => v = .int .i64 r.1 ∧ A' = Blk b0 [sV (strV r.2.s), sV (.int .i64 r.2.at_), sV (.int .i64 r.2.err)]) := by
 unfold code_Reader_Number at h
 refine Fn.ofP [.tmp 2] 52 Tryz.func92 rfl Tryz.ntmps92 (Nat.le_of_ble_eq_true rfl) rfl (fun o F Q hQ hN hret => ?_)
 refine sr (fun _ hK1 => ?_)
 refine an ?_
 refine nt hK1 ?_
 refine sr (fun _ hK2 => ?_)
 refine mv ?_
 obtain ⟨t3, wt3, h⟩ := bind_some' h
 refine st (OS.callP 0 _ (by decide) rfl fb168 rfl (code_Reader_take_ok a0 (1 : Int) wt3) (fun v4 S5 _ e6 z7 => ?_))
 obtain ⟨rfl, rfl⟩ := z7
 refine an ?_
 refine nt hK2 ?_
 refine G.seq (fun _ hK8 => ?_)
 refine sr (fun _ hK9 => ?_)
 refine mv ?_
 refine vl (Y.eqStr (a := t3.1) (b := ([] : Str)) rfl rfl) ?_
 refine nt hK9 ?_
 refine G.cond _ rfl (fun c10 => ?_) (fun c10 => ?_)
 ·replace h := ite_t c10 h
  refine sr (fun _ hK11 => ?_)
  refine an ?_
  refine nt hK11 ?_
  refine G.ret ?_
  obtain rfl := Option.some.inj h
  exact hret _ _ _ _ _ 0 e6 (.cons (.tmp rfl) .nil) ⟨rfl, rfl⟩ rfl
 replace h := ite_f c10 h
 refine sk hK8 ?_
 refine sr (fun _ hK12 => ?_)
 refine mv ?_
 obtain ⟨g13, h⟩ := req_bind h
 refine vl (Y.indexStr rfl rfl sty9 g13) ?_
 refine vl (Y.cv_u8_i64 (a := (getI t3.1 (0 : Int))) rfl int5 int3) ?_
 refine an ?_
 refine nt hK12 ?_
 refine G.seq (fun _ hK14 => ?_)
 refine sr (fun _ hK15 => ?_)
 refine mv ?_
 refine vl (Y.gtI rfl rfl) ?_
 refine nt hK15 ?_
 refine G.cond _ rfl (fun c16 => ?_) (fun c16 => ?_)
 ·replace h := ite_t c16 h
  refine sr (fun _ hK17 => ?_)
  refine mv ?_
  obtain ⟨t18, wt18, h⟩ := bind_some' h
  refine st (OS.callP 0 _ (by decide) rfl fb165 rfl (code_Reader_fail_ok t3.2 (4 : Int) wt18) (fun v19 S20 _ e21 z22 => ?_))
  obtain ⟨rfl, rfl⟩ := z22
  refine nt hK17 ?_
  refine sr (fun _ hK23 => ?_)
  refine an ?_
  refine nt hK23 ?_
  refine G.ret ?_
  obtain rfl := Option.some.inj h
  exact hret _ _ _ _ _ 0 (l2 e6 e21) (.cons (.tmp rfl) .nil) ⟨rfl, rfl⟩ rfl
 replace h := ite_f c16 h
 refine sk hK14 ?_
 refine sr (fun _ hK24 => ?_)
 refine an ?_
 refine nt hK24 ?_
 refine G.seq (fun _ hK25 => ?_)
 refine sr (fun _ hK26 => ?_)
 refine mv ?_
 refine mv ?_
 obtain ⟨t27, wt27, h⟩ := bind_some' h
 refine st (OS.callP 0 _ (by decide) rfl fb168 rfl (code_Reader_take_ok t3.2 ((getI t3.1 (0 : Int)).toNat : Int) wt27) (fun v28 S29 _ e30 z31 => ?_))
 obtain ⟨rfl, rfl⟩ := z31
 refine st (OS.convSB (s := t27.1) (by decide) rfl sty9 byt102 (fun v32 => ?_))
 refine vl (Y.lenR 0  rfl rfl slc102) ?_
 refine mv ?_
 refine nt hK26 ?_
 refine G.block ?_
 obtain ⟨b39, wb39, ho40⟩ := bind_some' h
 refine G.keep [24, 23, 22, 5, 4, 0] rfl ?_
 refine G.loopK (code_Reader_Number_s1 t3 t27) (fun s₀ E' S' L' => match s₀ with | (x36, x37) => S29.le S' ∧ E' = [(24, .int .i64 x36), (23, .int .i64 (lenI t27.1)), (22, v32), (5, .int .i64 x37), (4, .int .i64 ((getI t3.1 (0 : Int)).toNat : Int)), (0, .pointer (some ⟨b0, 0, none⟩))] ∧ Rw v32 t27.1 :: Blk b0 [sV (strV t27.2.s), sV (.int .i64 t27.2.at_), sV (.int .i64 t27.2.err)] :: F = L') b39 0 (fun E₀ S₀ L₀ => ∃ (x36 : Int) (x37 : Int), S29.le S₀ ∧ b39 = .inr (x36, x37) ∧ E₀ = [(5, .int .i64 x37)] ∧ Rw v32 t27.1 :: Blk b0 [sV (strV t27.2.s), sV (.int .i64 t27.2.at_), sV (.int .i64 t27.2.err)] :: F = L₀) wb39 ?_ ?_ ?_
 ·rintro _ S75 _ ⟨x36, x37, e76, rfl, rfl, rfl⟩
  have h := ho40; clear ho40
  try dsimp only at h
  refine GX.exit_block ?_
  refine GX.then hK25 ?_
  refine sr (fun _ hK77 => ?_)
  refine mv ?_
  refine an ?_
  refine nt hK77 ?_
  refine G.ret ?_
  obtain rfl := Option.some.inj h
  exact hret _ _ _ _ _ 1 (l2 e6 (l2 e30 e76)) (.cons (.tmp rfl) .nil) ⟨rfl, rfl⟩ rfl
 ·exact ⟨Hp.le_refl _, rfl, rfl⟩
 rintro ⟨x36, x37⟩ _ S34 _ ⟨e35, rfl, rfl⟩ out1 h hf1 K1 hK1 hx38
 rw [code_Reader_Number_s1] at h
 refine sr (fun _ hK41 => ?_)
 refine vl (Y.ltI rfl rfl) ?_
 refine nt hK41 ?_
 refine G.seq (fun _ hK42 => ?_)
 refine G.cond _ rfl (fun c43 => ?_) (fun c43 => ?_)
 ·replace h := ite_t c43 h
  refine sk hK42 ?_
  refine G.seq (fun _ hK44 => ?_)
  refine G.block ?_
  refine sr (fun _ hK45 => ?_)
  refine mv ?_
  obtain ⟨g46, h⟩ := req_bind h
  refine GO.rowAt 0 rfl g46 (fun ad47 p48 z49 => ?_)
  refine vl (Y.idxR rfl z49 rfl slc102 g46) ?_
  refine vl (Y.loadRowV 0  x36 0 rfl rfl z49 g46 rfl rfl one5) ?_
  refine an ?_
  refine an ?_
  refine nt hK45 ?_
  refine G.seq (fun _ hK50 => ?_)
  refine sr (fun _ hK51 => ?_)
  refine mv ?_
  refine vl (Y.eqI rfl rfl) ?_
  refine mv ?_
  obtain ⟨b52, wb52, h⟩ := bind_some' h
  refine GO.joinB 11 42 (b52 = ·) (fun K54 hK54 => ?_) ?_
  ·replace h := wb52
   rcases Bool.eq_false_or_eq_true (x36 == (0 : Int)) with c53 | c53
   ·replace h := ite_t c53 h
    refine gv 31 c53 (Y.move rfl) ?_
    refine gv 31 c53 (Y.eql_u8 (a := (getI t27.1 x36)) (b := 0) rfl rfl) ?_
    refine gv 31 c53 (Y.move rfl) ?_
    obtain ⟨b55, wb55, h⟩ := bind_some' h
    refine GO.joinB 7 41 (b55 = ·) (fun K57 hK57 => ?_) ?_
    ·replace h := wb55
     rcases Bool.eq_false_or_eq_true ((getI t27.1 x36) == 0) with c56 | c56
     ·replace h := ite_t c56 h
      refine gf 34 c56 ?_
      refine gf 34 c56 ?_
      refine gf 34 c56 ?_
      refine GO.off' 37 rfl (by decide) rfl (by decide) ?_
      refine GO.off' 37 rfl (by decide) rfl (by decide) ?_
      refine gf 34 c56 ?_
      refine gv 31 c53 (Y.pickT _ c56 rfl rfl) ?_
      refine GO.nil ?_
      refine p2 (p2 (p2 (p2 (p2 (p2 ?_)))))
      exact hK57 _ _ l0 (Option.some.inj h).symm
     replace h := ite_f c56 h
     refine gv 34 c56 (Y.move rfl) ?_
     refine gv 34 c56 (Y.eqI rfl rfl) ?_
     refine gv 34 c56 (Y.move rfl) ?_
     obtain ⟨b58, wb58, h⟩ := bind_some' h
     refine GO.joinB 3 40 (b58 = ·) (fun K60 hK60 => ?_) ?_
     ·replace h := wb58
      rcases Bool.eq_false_or_eq_true (((getI t3.1 (0 : Int)).toNat : Int) == (8 : Int)) with c59 | c59
      ·replace h := ite_t c59 h
       refine gv 37 c59 (Y.move rfl) ?_
       refine gv 37 c59 (Y.gtr_u8 (a := (getI t27.1 x36)) (b := 127) rfl rfl) ?_
       refine gv 34 c56 (Y.pickT _ c59 rfl rfl) ?_
       refine GO.nil ?_
       refine p2 (p2 ?_)
       exact hK60 _ _ l0 (Option.some.inj h).symm
      replace h := ite_f c59 h
      refine gf 37 c59 ?_
      refine gf 37 c59 ?_
      refine gv 34 c56 (Y.pickF _ c59 rfl rfl) ?_
      refine GO.nil ?_
      refine p2 (p2 ?_)
      exact hK60 _ _ l0 (Option.some.inj h).symm
     rintro _ S61 e62 rfl
     refine gv 31 c53 (Y.pickF _ c56 rfl rfl) ?_
     refine GO.nil ?_
     refine p2 (p2 (p2 (p2 ?_)))
     exact hK57 _ _ e62 (Option.some.inj h).symm
    rintro _ S63 e64 rfl
    refine vl (Y.pickT _ c53 rfl rfl) ?_
    refine GO.nil ?_
    refine p2 (p2 (p2 (p2 ?_)))
    exact hK54 _ _ e64 (Option.some.inj h).symm
   replace h := ite_f c53 h
   refine gf 31 c53 ?_
   refine gf 31 c53 ?_
   refine gf 31 c53 ?_
   refine GO.off' 34 rfl (by decide) rfl (by decide) ?_
   refine GO.off' 34 rfl (by decide) rfl (by decide) ?_
   refine GO.off' 34 rfl (by decide) rfl (by decide) ?_
   refine GO.off' 37 rfl (by decide) rfl (by decide) ?_
   refine GO.off' 37 rfl (by decide) rfl (by decide) ?_
   refine GO.off' 34 rfl (by decide) rfl (by decide) ?_
   refine gf 31 c53 ?_
   refine vl (Y.pickF _ c53 rfl rfl) ?_
   refine GO.nil ?_
   refine p2 (p2 (p2 (p2 (p2 (p2 (p2 (p2 (p2 (p2 ?_)))))))))
   exact hK54 _ _ l0 (Option.some.inj h).symm
  rintro _ S65 e66 rfl
  refine nt hK51 ?_
  refine G.cond _ rfl (fun c67 => ?_) (fun c67 => ?_)
  ·replace h := ite_t c67 h
   refine sr (fun _ hK68 => ?_)
   refine mv ?_
   obtain ⟨t69, wt69, h⟩ := bind_some' h
   refine st (OS.callP 1 _ (by decide) rfl fb165 rfl (code_Reader_fail_ok t27.2 (4 : Int) wt69) (fun v70 S71 _ e72 z73 => ?_))
   obtain ⟨rfl, rfl⟩ := z73
   refine nt hK68 ?_
   refine sr (fun _ hK74 => ?_)
   refine an ?_
   refine nt hK74 ?_
   refine G.ret ?_
   obtain rfl := Option.some.inj h
   obtain rfl := hf1 _ rfl
   have h := ho40
   try dsimp only at h
   obtain rfl := Option.some.inj h
   exact hret _ _ _ _ _ 1 (l2 e6 (l2 e30 (l2 e35 (l2 e66 e72)))) (.cons (.tmp rfl) .nil) ⟨rfl, rfl⟩ rfl
  replace h := ite_f c67 h
  refine sk hK50 ?_
  refine G.region ?_
  refine mv ?_
  refine vl (Y.shl_i64 rfl rfl (by decide)) ?_
  refine mv ?_
  refine vl (Y.cv_u8_i64 (a := (getI t27.1 x36)) rfl int5 int3) ?_
  refine vl (Y.orI rfl rfl) ?_
  refine an ?_
  refine GO.nil ?_
  refine GX.normal_block ?_
  refine GX.then hK44 ?_
  refine G.region ?_
  refine vl (Y.addI rfl rfl) ?_
  refine mv ?_
  refine GO.nil ?_
  obtain rfl := Option.some.inj h
  refine GX.keep [24, 23, 22, 5, 4, 0] rfl ?_
  exact hK1 _ _ _ _ rfl ⟨(l2 e35 e66), rfl, rfl⟩
 replace h := ite_f c43 h
 refine G.exit ?_
 refine GX.exit_then ?_
 obtain rfl := Option.some.inj h
 refine GX.keep [5] rfl ?_
 exact hx38 _ _ _ ⟨_, _, e35, (hf1 _ rfl).symm, rfl, rfl⟩

/- (*chirograph/code.Reader).Below -/
def code_Reader_Below  (a0 : Rd) (a1 : Int) : Option (Int × Rd) :=
 ((code_Reader_Number a0).bind fun t3 => (if (decide (a1 ≤ t3.1)) = true then ((code_Reader_fail t3.2 (2 : Int)).bind fun t12 => some ((0 : Int), t12)) else some (t3.1, t3.2)))

theorem code_Reader_Below_ok {S : Hp} (a0 : Rd) (a1 : Int) {b0 : Nat} {r : Int × Rd} (h : code_Reader_Below a0 a1 = some r) : FnP Tryz.prog 86 [.pointer (some ⟨b0, 0, none⟩), .int .i64 a1] S (Blk b0 [sV (strV a0.s), sV (.int .i64 a0.at_), sV (.int .i64 a0.err)]) (fun v S' A' => v = .int .i64 r.1 ∧ A' = Blk b0 [sV (strV r.2.s), sV (.int .i64 r.2.at_), sV (.int .i64 r.2.err)]) := by
 unfold code_Reader_Below at h
 refine Fn.ofP [.tmp 4] 14 Tryz.func86 rfl Tryz.ntmps86 (Nat.le_of_ble_eq_true rfl) rfl (fun o F Q hQ hN hret => ?_)
 refine sr (fun _ hK1 => ?_)
 refine an ?_
 refine nt hK1 ?_
 refine sr (fun _ hK2 => ?_)
 refine mv ?_
 obtain ⟨t3, wt3, h⟩ := bind_some' h
 refine st (OS.callP 0 _ (by decide) rfl fb92 rfl (code_Reader_Number_ok a0 wt3) (fun v4 S5 _ e6 z7 => ?_))
 obtain ⟨rfl, rfl⟩ := z7
 refine an ?_
 refine nt hK2 ?_
 refine G.seq (fun _ hK8 => ?_)
 refine sr (fun _ hK9 => ?_)
 refine mv ?_
 refine mv ?_
 refine vl (Y.geI rfl rfl) ?_
 refine nt hK9 ?_
 refine G.cond _ rfl (fun c10 => ?_) (fun c10 => ?_)
 ·replace h := ite_t c10 h
  refine sr (fun _ hK11 => ?_)
  refine mv ?_
  obtain ⟨t12, wt12, h⟩ := bind_some' h
  refine st (OS.callP 0 _ (by decide) rfl fb165 rfl (code_Reader_fail_ok t3.2 (2 : Int) wt12) (fun v13 S14 _ e15 z16 => ?_))
  obtain ⟨rfl, rfl⟩ := z16
  refine nt hK11 ?_
  refine sr (fun _ hK17 => ?_)
  refine an ?_
  refine nt hK17 ?_
  refine G.ret ?_
  obtain rfl := Option.some.inj h
  exact hret _ _ _ _ _ 0 (l2 e6 e15) (.cons (.tmp rfl) .nil) ⟨rfl, rfl⟩ rfl
 replace h := ite_f c10 h
 refine sk hK8 ?_
 refine sr (fun _ hK18 => ?_)
 refine mv ?_
 refine an ?_
 refine nt hK18 ?_
 refine G.ret ?_
 obtain rfl := Option.some.inj h
 exact hret _ _ _ _ _ 0 e6 (.cons (.tmp rfl) .nil) ⟨rfl, rfl⟩ rfl

/- (*chirograph/code.Reader).Done -/
def code_Reader_Done  (a0 : Rd) : Option (Int × Rd) :=
 ((if (a0.err == (0 : Int)) = true then some (decide (a0.at_ < (lenI a0.s))) else some false).bind fun b5 => (if b5 = true then some ((3 : Int), a0) else some (a0.err, a0)))

theorem code_Reader_Done_ok {S : Hp} (a0 : Rd) {b0 : Nat} {r : Int × Rd} (h : code_Reader_Done a0 = some r) : FnP Tryz.prog 89 [.pointer (some ⟨b0, 0, none⟩)] S (Blk b0 [sV (strV a0.s), sV (.int .i64 a0.at_), sV (.int .i64 a0.err)]) (fun v S' A' => v = .int .i64 r.1 ∧ A' = Blk b0 [sV (strV r.2.s), sV (.int .i64 r.2.at_), sV (.int .i64 r.2.err)]) := by
 unfold code_Reader_Done at h
 refine Fn.ofP [.tmp 2] 24 Tryz.func89 rfl Tryz.ntmps89 (Nat.le_of_ble_eq_true rfl) rfl (fun o F Q hQ hN hret => ?_)
 refine sr (fun _ hK1 => ?_)
 refine an ?_
 refine nt hK1 ?_
 refine G.seq (fun _ hK2 => ?_)
 refine G.seq (fun _ hK3 => ?_)
 obtain ⟨b5, wb5, h⟩ := bind_some' h
 refine G.cut (fun E₀ S₀ L₀ => S.le S₀ ∧ E₀ = [(19, .bool b5), (0, .pointer (some ⟨b0, 0, none⟩))] ∧ Blk b0 [sV (strV a0.s), sV (.int .i64 a0.at_), sV (.int .i64 a0.err)] :: F = L₀) (fun K4 hK4 => ?_) ?_
 ·replace h := wb5
  rcases Bool.eq_false_or_eq_true (a0.err == (0 : Int)) with c6 | c6
  ·replace h := ite_t c6 h
   obtain rfl := Option.some.inj h
   refine G.drawN 17 mixed (by kernel_rfl) ?_
   refine tn 0 rfl hQ (fun _ _ _ => Y.move rfl) ?_
   refine tn 1 rfl hQ (fun _ _ _ => Y.nilCheck rfl) ?_
   refine tn 2 rfl hQ (fun _ _ _ => Y.fieldAddr 2 rfl fld223_2 rfl) ?_
   refine tn 3 rfl hQ (fun S₀ X₀ e₀ => Y.loadV (X₀.length + 0)  2 _ rfl (Lk rfl) rfl rfl one38) ?_
   refine tn 4 rfl hQ (fun _ _ _ => Y.eqI rfl rfl) ?_
   refine tn 5 rfl hQ (fun _ _ _ => Y.move rfl) ?_
   refine tw 6 rfl .refl hQ (gi 8 c6) (fun _ _ _ => Y.move rfl) ?_
   refine tw 7 rfl .refl hQ (gi 8 c6) (fun _ _ _ => Y.nilCheck rfl) ?_
   refine tw 8 rfl .refl hQ (gi 8 c6) (fun _ _ _ => Y.fieldAddr 1 rfl fld223_1 rfl) ?_
   refine tw 9 rfl .refl hQ (gi 8 c6) (fun S₀ X₀ e₀ => Y.loadV (X₀.length + 0)  1 _ rfl (Lk rfl) rfl rfl one3) ?_
   refine tw 10 rfl .refl hQ (gi 8 c6) (fun _ _ _ => Y.move rfl) ?_
   refine tw 11 rfl .refl hQ (gi 8 c6) (fun _ _ _ => Y.nilCheck rfl) ?_
   refine tw 12 rfl .refl hQ (gi 8 c6) (fun _ _ _ => Y.fieldAddr 0 rfl fld223_0 rfl) ?_
   refine tw 13 rfl .refl hQ (gi 8 c6) (fun S₀ X₀ e₀ => Y.loadV (X₀.length + 0)  0 _ rfl (Lk rfl) rfl rfl one9) ?_
   refine tw 14 rfl .refl hQ (gi 8 c6) (fun _ _ _ => Y.lenStr (v := a0.s) rfl sty9) ?_
   refine tw 15 rfl .refl hQ (gi 8 c6) (fun _ _ _ => Y.ltI rfl rfl) ?_
   refine tn 16 rfl hQ (fun _ _ _ => Y.pickT _ c6 rfl rfl) ?_
   refine dn ?_
   refine GX.keep [19, 0] rfl ?_
   exact hK4 _ _ _ ⟨l0, rfl, rfl⟩
  replace h := ite_f c6 h
  obtain rfl := Option.some.inj h
  refine G.drawN 17 mixed (by kernel_rfl) ?_
  refine tn 0 rfl hQ (fun _ _ _ => Y.move rfl) ?_
  refine tn 1 rfl hQ (fun _ _ _ => Y.nilCheck rfl) ?_
  refine tn 2 rfl hQ (fun _ _ _ => Y.fieldAddr 2 rfl fld223_2 rfl) ?_
  refine tn 3 rfl hQ (fun S₀ X₀ e₀ => Y.loadV (X₀.length + 0)  2 _ rfl (Lk rfl) rfl rfl one38) ?_
  refine tn 4 rfl hQ (fun _ _ _ => Y.eqI rfl rfl) ?_
  refine tn 5 rfl hQ (fun _ _ _ => Y.move rfl) ?_
  refine tf 6 rfl .refl hQ (gn 8 c6) ?_
  refine tf 7 rfl .refl hQ (gn 8 c6) ?_
  refine tf 8 rfl .refl hQ (gn 8 c6) ?_
  refine tf 9 rfl .refl hQ (gn 8 c6) ?_
  refine tf 10 rfl .refl hQ (gn 8 c6) ?_
  refine tf 11 rfl .refl hQ (gn 8 c6) ?_
  refine tf 12 rfl .refl hQ (gn 8 c6) ?_
  refine tf 13 rfl .refl hQ (gn 8 c6) ?_
  refine tf 14 rfl .refl hQ (gn 8 c6) ?_
  refine tf 15 rfl .refl hQ (gn 8 c6) ?_
  refine tn 16 rfl hQ (fun _ _ _ => Y.pickF _ c6 rfl rfl) ?_
  refine dn ?_
  refine GX.keep [19, 0] rfl ?_
  exact hK4 _ _ _ ⟨l0, rfl, rfl⟩
 rintro _ S7 _ ⟨e8, rfl, rfl⟩
 refine GX.then hK3 ?_
 refine G.cond _ rfl (fun c9 => ?_) (fun c9 => ?_)
 ·replace h := ite_t c9 h
  refine sr (fun _ hK10 => ?_)
  refine an ?_
  refine nt hK10 ?_
  refine G.ret ?_
  obtain rfl := Option.some.inj h
  exact hret _ _ _ _ _ 0 e8 (.cons (.tmp rfl) .nil) ⟨rfl, rfl⟩ rfl
 replace h := ite_f c9 h
 refine sk hK2 ?_
 refine sr (fun _ hK11 => ?_)
 refine mv ?_
 refine vl (Y.nilCheck rfl) ?_
 refine vl (Y.fieldAddr 2 rfl fld223_2 rfl) ?_
 refine lv 0 2 one38 ?_
 refine an ?_
 refine nt hK11 ?_
 refine G.ret ?_
 obtain rfl := Option.some.inj h
 exact hret _ _ _ _ _ 0 e8 (.cons (.tmp rfl) .nil) ⟨rfl, rfl⟩ rfl

/- (*chirograph/code.Reader).Label -/
def code_Reader_Label  (a0 : Rd) : Option (Lab × Rd) :=
 ((code_Reader_take a0 (32 : Int)).bind fun t8 => ((req (List.length t8.1 ≤ 32)).bind fun _ => some ((overV zL t8.1), t8.2)))

theorem code_Reader_Label_ok {S : Hp} (a0 : Rd) {b0 : Nat} {r : Lab × Rd} (h : code_Reader_Label a0 = some r) : FnP Tryz.prog 93 [.pointer (some ⟨b0, 0, none⟩)] S (Blk b0 [sV (strV a0.s), sV (.int .i64 a0.at_), sV (.int .i64 a0.err)]) (fun v S' A' => v = aggV [sL r.1] ∧ A' = Blk b0 [sV (strV r.2.s), sV (.int .i64 r.2.at_), sV (.int .i64 r.2.err)]) := by
 unfold code_Reader_Label at h
 refine Fn.ofP [.cell 2 23] 9 Tryz.func93 rfl Tryz.ntmps93 (Nat.le_of_ble_eq_true rfl) rfl (fun o F Q hQ hN hret => ?_)
 refine sr (fun _ hK1 => ?_)
 refine st (OS.alloc _ (by decide) zero23 (fun ad2 => ?_))
 refine nt hK1 ?_
 refine sr (fun _ hK4 => ?_)
 refine st (OS.alloc _ (by decide) zero23 (fun ad5 => ?_))
 refine nt hK4 ?_
 refine G.seq (fun _ hK7 => ?_)
 obtain ⟨t8, wt8, h⟩ := bind_some' h
 obtain ⟨g13, h⟩ := req_bind h
 refine G.drawS 2 _ ((fun _ => True) :: Blk ad2 [sL zL] :: (fun _ => True) :: F) mixed .refl (by kernel_rfl) ?_
 refine tx 0 rfl (.lose (.same (.lose .refl))) hQ (fun _ _ _ => Y.sliceArr rfl arr23 (by decide)) ?_
 refine tx 1 rfl (.lose (.same (.lose .refl))) hQ (fun _ _ _ => Y.move rfl) ?_
 refine g1 2 ?_
 refine n2 rfl (OS.callP 2 _ (by decide) rfl fb168 rfl (code_Reader_take_ok a0 (32 : Int) wt8) (fun v14 S15 _ e16 z17 => ⟨⟨[], (.lose (.same (.lose .refl))), e16⟩, ?_⟩))
 obtain ⟨rfl, rfl⟩ := z17
 refine g1 3 ?_
 refine n2 rfl (OS.copyB 0 0 (sL zL) (sL (overV zL t8.1)) [sL (overV zL t8.1)] zL.toList (by decide) rfl rfl strV.src rfl rfl rfl (toList_sL _) (by rw [toList_sL, overV_toList]) rfl slc102 (by simp) g13 ⟨⟨[], (.lose (.same (.lose .refl))), e16⟩, ?_⟩)
 refine dn ?_
 refine GX.then hK7 ?_
 refine sr (fun _ hK18 => ?_)
 refine lb 0 0 1 [sL (overV zL t8.1)] row23 ?_
 refine sf 1 1 [sL (overV zL t8.1)] (aggV_cells _) (oL oN) size23 ?_
 refine nt hK18 ?_
 refine G.ret ?_
 obtain rfl := Option.some.inj h
 exact hret _ _ _ _ _ 2 e16 (.cons (.row (k := 1) rfl rfl row23 (by kernel_rfl)) .nil) ⟨rfl, rfl⟩ rfl

/- (*chirograph/code.Reader).Flag -/
def code_Reader_Flag  (a0 : Rd) : Option (Bool × Rd) :=
 ((code_Reader_take a0 (1 : Int)).bind fun t3 => (if (cmpS .gtr t3.1 ([1] : Str)) = true then ((code_Reader_fail t3.2 (4 : Int)).bind fun t12 => some (false, t12)) else some ((t3.1 == ([1] : Str)), t3.2)))

theorem code_Reader_Flag_ok {S : Hp} (a0 : Rd) {b0 : Nat} {r : Bool × Rd} (h : code_Reader_Flag a0 = some r) : FnP Tryz.prog 166 [.pointer (some ⟨b0, 0, none⟩)] S (Blk b0 [sV (strV a0.s), sV (.int .i64 a0.at_), sV (.int .i64 a0.err)]) (fun v S' A' => v = .bool r.1 ∧ A' = Blk b0 [sV (strV r.2.s), sV (.int .i64 r.2.at_), sV (.int .i64 r.2.err)]) := by
 unfold code_Reader_Flag at h
 refine Fn.ofP [.tmp 2] 12 Tryz.func166 rfl Tryz.ntmps166 (Nat.le_of_ble_eq_true rfl) rfl (fun o F Q hQ hN hret => ?_)
 refine sr (fun _ hK1 => ?_)
 refine an ?_
 refine nt hK1 ?_
 refine sr (fun _ hK2 => ?_)
 refine mv ?_
 obtain ⟨t3, wt3, h⟩ := bind_some' h
 refine st (OS.callP 0 _ (by decide) rfl fb168 rfl (code_Reader_take_ok a0 (1 : Int) wt3) (fun v4 S5 _ e6 z7 => ?_))
 obtain ⟨rfl, rfl⟩ := z7
 refine an ?_
 refine nt hK2 ?_
 refine G.seq (fun _ hK8 => ?_)
 refine sr (fun _ hK9 => ?_)
 refine mv ?_
 refine vl (Y.cmpStr (op := .gtr) (a := t3.1) (b := ([1] : Str)) rfl rfl (by simp)) ?_
 refine nt hK9 ?_
 refine G.cond _ rfl (fun c10 => ?_) (fun c10 => ?_)
 ·replace h := ite_t c10 h
  refine sr (fun _ hK11 => ?_)
  refine mv ?_
  obtain ⟨t12, wt12, h⟩ := bind_some' h
  refine st (OS.callP 0 _ (by decide) rfl fb165 rfl (code_Reader_fail_ok t3.2 (4 : Int) wt12) (fun v13 S14 _ e15 z16 => ?_))
  obtain ⟨rfl, rfl⟩ := z16
  refine nt hK11 ?_
  refine sr (fun _ hK17 => ?_)
  refine an ?_
  refine nt hK17 ?_
  refine G.ret ?_
  obtain rfl := Option.some.inj h
  exact hret _ _ _ _ _ 0 (l2 e6 e15) (.cons (.tmp rfl) .nil) ⟨rfl, rfl⟩ rfl
 replace h := ite_f c10 h
 refine sk hK8 ?_
 refine sr (fun _ hK18 => ?_)
 refine mv ?_
 refine vl (Y.eqStr (a := t3.1) (b := ([1] : Str)) rfl rfl) ?_
 refine an ?_
 refine nt hK18 ?_
 refine G.ret ?_
 obtain rfl := Option.some.inj h
 exact hret _ _ _ _ _ 0 e6 (.cons (.tmp rfl) .nil) ⟨rfl, rfl⟩ rfl

/- (*chirograph/code.Reader).Text -/
def code_Reader_Text  (a0 : Rd) : Option (Str × Rd) :=
 ((code_Reader_Number a0).bind fun t3 => ((if (t3.2.err == (0 : Int)) = true then some (decide ((65536 : Int) < t3.1)) else some false).bind fun b10 => (if b10 = true then ((code_Reader_fail t3.2 (2 : Int)).bind fun t16 => ((code_Reader_take t16 t3.1).bind fun t22 => some (t22.1, t22.2))) else ((code_Reader_take t3.2 t3.1).bind fun t28 => some (t28.1, t28.2)))))

theorem code_Reader_Text_ok {S : Hp} (a0 : Rd) {b0 : Nat} {r : Str × Rd} (h : code_Reader_Text a0 = some r) : FnP Tryz.prog 88 [.pointer (some ⟨b0, 0, none⟩)] S (Blk b0 [sV (strV a0.s), sV (.int .i64 a0.at_), sV (.int .i64 a0.err)]) (fun v S' A' => v = strV r.1 ∧ A' = Blk b0 [sV (strV r.2.s), sV (.int .i64 r.2.at_), sV (.int .i64 r.2.err)]) := by
 unfold code_Reader_Text at h
 refine Fn.ofP [.tmp 2] 20 Tryz.func88 rfl Tryz.ntmps88 (Nat.le_of_ble_eq_true rfl) rfl (fun o F Q hQ hN hret => ?_)
 refine sr (fun _ hK1 => ?_)
 refine an ?_
 refine nt hK1 ?_
 refine sr (fun _ hK2 => ?_)
 refine mv ?_
 obtain ⟨t3, wt3, h⟩ := bind_some' h
 refine st (OS.callP 0 _ (by decide) rfl fb92 rfl (code_Reader_Number_ok a0 wt3) (fun v4 S5 _ e6 z7 => ?_))
 obtain ⟨rfl, rfl⟩ := z7
 refine an ?_
 refine nt hK2 ?_
 refine G.seq (fun _ hK8 => ?_)
 refine sr (fun _ hK9 => ?_)
 refine mv ?_
 refine vl (Y.nilCheck rfl) ?_
 refine vl (Y.fieldAddr 2 rfl fld223_2 rfl) ?_
 refine lv 0 2 one38 ?_
 refine vl (Y.eqI rfl rfl) ?_
 refine mv ?_
 obtain ⟨b10, wb10, h⟩ := bind_some' h
 refine GO.joinB 3 14 (b10 = ·) (fun K12 hK12 => ?_) ?_
 ·replace h := wb10
  rcases Bool.eq_false_or_eq_true (t3.2.err == (0 : Int)) with c11 | c11
  ·replace h := ite_t c11 h
   refine gv 11 c11 (Y.move rfl) ?_
   refine gv 11 c11 (Y.gtI rfl rfl) ?_
   refine vl (Y.pickT _ c11 rfl rfl) ?_
   refine GO.nil ?_
   refine p2 (p2 ?_)
   exact hK12 _ _ l0 (Option.some.inj h).symm
  replace h := ite_f c11 h
  refine gf 11 c11 ?_
  refine gf 11 c11 ?_
  refine vl (Y.pickF _ c11 rfl rfl) ?_
  refine GO.nil ?_
  refine p2 (p2 ?_)
  exact hK12 _ _ l0 (Option.some.inj h).symm
 rintro _ S13 e14 rfl
 refine nt hK9 ?_
 refine G.cond _ rfl (fun c15 => ?_) (fun c15 => ?_)
 ·replace h := ite_t c15 h
  refine G.region ?_
  refine mv ?_
  obtain ⟨t16, wt16, h⟩ := bind_some' h
  refine st (OS.callP 0 _ (by decide) rfl fb165 rfl (code_Reader_fail_ok t3.2 (2 : Int) wt16) (fun v17 S18 _ e19 z20 => ?_))
  obtain ⟨rfl, rfl⟩ := z20
  refine nt hK8 ?_
  refine sr (fun _ hK21 => ?_)
  refine mv ?_
  refine mv ?_
  obtain ⟨t22, wt22, h⟩ := bind_some' h
  refine st (OS.callP 0 _ (by decide) rfl fb168 rfl (code_Reader_take_ok t16 t3.1 wt22) (fun v23 S24 _ e25 z26 => ?_))
  obtain ⟨rfl, rfl⟩ := z26
  refine an ?_
  refine nt hK21 ?_
  refine G.ret ?_
  obtain rfl := Option.some.inj h
  exact hret _ _ _ _ _ 0 (l2 e6 (l2 e14 (l2 e19 e25))) (.cons (.tmp rfl) .nil) ⟨rfl, rfl⟩ rfl
 replace h := ite_f c15 h
 refine sk hK8 ?_
 refine sr (fun _ hK27 => ?_)
 refine mv ?_
 refine mv ?_
 obtain ⟨t28, wt28, h⟩ := bind_some' h
 refine st (OS.callP 0 _ (by decide) rfl fb168 rfl (code_Reader_take_ok t3.2 t3.1 wt28) (fun v29 S30 _ e31 z32 => ?_))
 obtain ⟨rfl, rfl⟩ := z32
 refine an ?_
 refine nt hK27 ?_
 refine G.ret ?_
 obtain rfl := Option.some.inj h
 exact hret _ _ _ _ _ 0 (l2 e6 (l2 e14 e31)) (.cons (.tmp rfl) .nil) ⟨rfl, rfl⟩ rfl

/- (*chirograph/code.Writer).fail -/
def code_Writer_fail  (a0 : Wr) (a1 : Int) : Option Wr :=
 (if (a0.err == (0 : Int)) = true then some (⟨a0.b, a1⟩ : Wr) else some a0)

theorem code_Writer_fail_ok {S : Hp} (a0 : Wr) (a1 : Int) {b0 : Nat} {r : Wr} (h : code_Writer_fail a0 a1 = some r) : FnP Tryz.prog 175 [.pointer (some ⟨b0, 0, none⟩), .int .i64 a1] S (WrA b0 a0) (fun v S' A' => v = .tuple #[] ∧ A' = WrA b0 r) := by
 unfold code_Writer_fail at h
 refine Fn.ofP [] 13 Tryz.func175 rfl Tryz.ntmps175 (Nat.le_of_ble_eq_true rfl) rfl (fun o F Q hQ hN hret => ?_)
 refine sr (fun _ hK1 => ?_)
 refine mv ?_
 refine vl (Y.nilCheck rfl) ?_
 refine GO.openW 0 rfl (fun v2 => ?_)
 refine vl (Y.fieldAddr 1 rfl fld168_1 rfl) ?_
 refine lv 1 1 one38 ?_
 refine vl (Y.eqI rfl rfl) ?_
 refine nt hK1 ?_
 refine G.cond _ rfl (fun c4 => ?_) (fun c4 => ?_)
 ·replace h := ite_t c4 h
  refine G.region ?_
  refine mv ?_
  refine mv ?_
  refine vl (Y.nilCheck rfl) ?_
  refine vl (Y.fieldAddr 1 rfl fld168_1 rfl) ?_
  refine so 1 1 1 [sV v2, sV (.int .i64 a1)] (r := [sV (.int .i64 a1)]) rfl (oI oN) size38 ?_
  refine GO.nil ?_
  refine GX.fall hN ?_
  refine GX.foldW 1 0 rfl rfl (by decide) ?_
  obtain rfl := Option.some.inj h
  exact hret _ _ _ _ _ 1 l0 .nil ⟨rfl, rfl⟩ rfl
 replace h := ite_f c4 h
 refine G.skip ?_
 refine GX.fall hN ?_
 refine GX.foldW 1 0 rfl rfl (by decide) ?_
 obtain rfl := Option.some.inj h
 exact hret _ _ _ _ _ 1 l0 .nil ⟨rfl, rfl⟩ rfl

/- (*chirograph/code.Writer).Number -/
def code_Writer_Number_s2 (a1 : Int) : (Int × Wr) → Option ((Int × Wr) ⊕ (Int × Wr))
 | (x37, x38) => (if (decide ((0 : Int) ≤ x37)) = true then ((req (0 ≤ (wrap64 ((8 : Int) * x37)))).bind fun _ => ((req (List.length x38.b + List.length ([(u8I (shrInt a1 (wrap64 ((8 : Int) * x37))))] : List UInt8) ≤ LIM)).bind fun _ => some (.inl ((wrap64 (x37 - (1 : Int))), (⟨(x38.b ++ ([(u8I (shrInt a1 (wrap64 ((8 : Int) * x37))))] : List UInt8)), x38.err⟩ : Wr))))) else some (.inr (x37, x38)))

def code_Writer_Number_s1  : (Int × Int) → Option ((Int × Int) ⊕ (Int × Int))
 | (x15, x16) => (if (decide ((0 : Int) < x15)) = true then some (.inl ((shrInt x15 8), (wrap64 (x16 + (1 : Int))))) else some (.inr (x15, x16)))

def code_Writer_Number  (a0 : Wr) (a1 : Int) : Option Wr :=
 (if (decide (a1 < (0 : Int))) = true then ((code_Writer_fail a0 (1 : Int)).bind fun t5 => some t5) else ((iter (code_Writer_Number_s1) (a1, (0 : Int))).bind fun b18 => (match b18 with | (x15, x16) => ((req (List.length a0.b + List.length ([(u8I x16)] : List UInt8) ≤ LIM)).bind fun _ => ((iter (code_Writer_Number_s2 a1) ((wrap64 (x16 - (1 : Int))), (⟨(a0.b ++ ([(u8I x16)] : List UInt8)), a0.err⟩ : Wr))).bind fun b40 => (match b40 with | (x37, x38) => some x38))))))

theorem code_Writer_Number_ok {S : Hp} (a0 : Wr) (a1 : Int) {b0 : Nat} {r : Wr} (h : code_Writer_Number a0 a1 = some r) : FnP Tryz.prog 102 [.pointer (some ⟨b0, 0, none⟩), .int .i64 a1] S (WrA b0 a0) (fun v S' A' => v = .tuple #[] ∧ A' = WrA b0 r) := by
 unfold code_Writer_Number at h
 refine Fn.ofP [] 49 Tryz.func102 rfl Tryz.ntmps102 (Nat.le_of_ble_eq_true rfl) rfl (fun o F Q hQ hN hret => ?_)
 refine G.seq (fun _ hK1 => ?_)
 refine sr (fun _ hK2 => ?_)
 refine mv ?_
 refine vl (Y.ltI rfl rfl) ?_
 refine nt hK2 ?_
 refine G.cond _ rfl (fun c3 => ?_) (fun c3 => ?_)
 ·replace h := ite_t c3 h
  refine sr (fun _ hK4 => ?_)
  refine mv ?_
  obtain ⟨t5, wt5, h⟩ := bind_some' h
  refine st (OS.callP 0 _ (by decide) rfl fb175 rfl (code_Writer_fail_ok a0 (1 : Int) wt5) (fun v6 S7 _ e8 z9 => ?_))
  obtain ⟨rfl, rfl⟩ := z9
  refine nt hK4 ?_
  refine G.ret ?_
  obtain rfl := Option.some.inj h
  exact hret _ _ _ _ _ 0 e8 .nil ⟨rfl, rfl⟩ rfl
 replace h := ite_f c3 h
 refine sk hK1 ?_
 refine sr (fun _ hK10 => ?_)
 refine an ?_
 refine nt hK10 ?_
 refine G.seq (fun _ hK11 => ?_)
 refine sr (fun _ hK12 => ?_)
 refine mv ?_
 refine an ?_
 refine nt hK12 ?_
 refine G.block ?_
 obtain ⟨b18, wb18, ho19⟩ := bind_some' h
 refine G.keep [5, 4, 0, 1] rfl ?_
 refine G.loopK (code_Writer_Number_s1) (fun s₀ E' S' L' => match s₀ with | (x15, x16) => S.le S' ∧ E' = [(5, .int .i64 x15), (4, .int .i64 x16), (0, .pointer (some ⟨b0, 0, none⟩)), (1, .int .i64 a1)] ∧ WrA b0 a0 :: F = L') b18 0 (fun E₀ S₀ L₀ => ∃ (x15 : Int) (x16 : Int), S.le S₀ ∧ b18 = (x15, x16) ∧ E₀ = [(4, .int .i64 x16), (0, .pointer (some ⟨b0, 0, none⟩)), (1, .int .i64 a1)] ∧ WrA b0 a0 :: F = L₀) wb18 ?_ ?_ ?_
 ·rintro _ S24 _ ⟨x15, x16, e25, rfl, rfl, rfl⟩
  have h := ho19; clear ho19
  try dsimp only at h
  refine GX.exit_block ?_
  refine GX.then hK11 ?_
  refine sr (fun _ hK26 => ?_)
  refine mv ?_
  refine mv ?_
  refine vl (Y.nilCheck rfl) ?_
  refine GO.openW 0 rfl (fun v27 => ?_)
  refine vl (Y.fieldAddr 0 rfl fld168_0 rfl) ?_
  refine lv 1 0 one102 ?_
  refine mv ?_
  refine vl (Y.cv_i64_u8 (a := x16) rfl int3 int5) ?_
  refine bs ([(u8I x16)] : List UInt8) el102 (fun v29 => ?_)
  obtain ⟨g31, h⟩ := req_bind h
  refine st (OS.append (xs := a0.b) (ys := ([(u8I x16)] : List UInt8)) 1 (by decide) rfl rfl rfl (Rw.src (k := 0) rfl) el102 src102 g31 (fun v32 => ?_))
  refine vl (Y.nilCheck rfl) ?_
  refine vl (Y.fieldAddr 0 rfl fld168_0 rfl) ?_
  refine GO.rowOne 1 rfl (fun z33 => ?_)
  refine so 2 0 1 [sV v32, sV (.int .i64 a0.err)] (r := [sV v32]) (cells_one z33) (oV (z33) oN) size102 ?_
  refine nt hK26 ?_
  refine sr (fun _ hK34 => ?_)
  refine mv ?_
  refine vl (Y.subI rfl rfl) ?_
  refine an ?_
  refine nt hK34 ?_
  refine G.block ?_
  refine G.foldW 2 1 rfl rfl (by decide) ?_
  obtain ⟨b40, wb40, ho41⟩ := bind_some' h
  refine G.keep [6, 0, 1] rfl ?_
  refine G.loopK (code_Writer_Number_s2 a1) (fun s₀ E' S' L' => match s₀ with | (x37, x38) => S24.le S' ∧ E' = [(6, .int .i64 x37), (0, .pointer (some ⟨b0, 0, none⟩)), (1, .int .i64 a1)] ∧ Rw v29 ([(u8I x16)] : List UInt8) :: (fun _ => True) :: WrA b0 x38 :: F = L') b40 2 (fun E₀ S₀ L₀ => ∃ (x37 : Int) (x38 : Wr), S24.le S₀ ∧ b40 = (x37, x38) ∧ E₀ = [] ∧ Rw v29 ([(u8I x16)] : List UInt8) :: (fun _ => True) :: WrA b0 x38 :: F = L₀) wb40 ?_ ?_ ?_
  ·rintro _ S58 _ ⟨x37, x38, e59, rfl, rfl, rfl⟩
   have h := ho41; clear ho41
   try dsimp only at h
   refine GX.exit_block ?_
   refine GX.fall hN ?_
   obtain rfl := Option.some.inj h
   exact hret _ _ _ _ _ 2 (l2 e25 e59) .nil ⟨rfl, rfl⟩ rfl
  ·exact ⟨Hp.le_refl _, rfl, rfl⟩
  rintro ⟨x37, x38⟩ _ S35 _ ⟨e36, rfl, rfl⟩ out2 h hf2 K2 hK2 hx39
  rw [code_Writer_Number_s2] at h
  refine G.seq (fun _ hK42 => ?_)
  refine sr (fun _ hK43 => ?_)
  refine mv ?_
  refine vl (Y.geI rfl rfl) ?_
  refine nt hK43 ?_
  refine G.cond _ rfl (fun c44 => ?_) (fun c44 => ?_)
  ·replace h := ite_t c44 h
   refine sk hK42 ?_
   refine G.seq (fun _ hK45 => ?_)
   refine G.block ?_
   refine G.openW 2 rfl (fun v46 => ?_)
   obtain ⟨g48, h⟩ := req_bind h
   obtain ⟨g51, h⟩ := req_bind h
   refine G.drawS 11 _ ((fun _ => True) :: Rw v29 ([(u8I x16)] : List UInt8) :: (fun _ => True) :: (fun _ => True) :: F) mixed .refl (by kernel_rfl) ?_
   refine tx 0 rfl (.lose (.same (.same (.lose .refl)))) hQ (fun _ _ _ => Y.move rfl) ?_
   refine tx 1 rfl (.lose (.same (.same (.lose .refl)))) hQ (fun _ _ _ => Y.move rfl) ?_
   refine tx 2 rfl (.lose (.same (.same (.lose .refl)))) hQ (fun _ _ _ => Y.nilCheck rfl) ?_
   refine tx 3 rfl (.lose (.same (.same (.lose .refl)))) hQ (fun _ _ _ => Y.fieldAddr 0 rfl fld168_0 rfl) ?_
   refine tk 4 [4, 11] rfl hQ Gd.none (fun S₀ X₀ e₀ => Y.loadV (X₀.length + 3)  0 _ rfl (Lk rfl) rfl rfl one102) ?_
   refine tx 5 rfl (.lose (.same (.same (.lose .refl)))) hQ (fun _ _ _ => Y.move rfl) ?_
   refine tx 6 rfl (.lose (.same (.same (.lose .refl)))) hQ (fun _ _ _ => Y.move rfl) ?_
   refine tx 7 rfl (.lose (.same (.same (.lose .refl)))) hQ (fun _ _ _ => Y.mulI rfl rfl) ?_
   refine tx 8 rfl (.lose (.same (.same (.lose .refl)))) hQ (fun _ _ _ => Y.shr_i64 rfl rfl g48) ?_
   refine tx 9 rfl (.lose (.same (.same (.lose .refl)))) hQ (fun _ _ _ => Y.cv_i64_u8 (a := (shrInt a1 (wrap64 ((8 : Int) * x37)))) rfl int3 int5) ?_
   refine g1 10 ?_
   refine n1 rfl (OS.buildSliceE ([(u8I (shrInt a1 (wrap64 ((8 : Int) * x37))))] : List UInt8) (by decide) el102 rfl (Nat.le_of_ble_eq_true rfl) rfl ⟨rfl, rfl⟩ (fun v54 => ⟨⟨[_], (.same .refl), l0⟩, ?_⟩))
   refine g1 11 ?_
   refine n2 rfl (OS.append (xs := x38.b) (ys := ([(u8I (shrInt a1 (wrap64 ((8 : Int) * x37))))] : List UInt8)) 1 (by decide) rfl rfl rfl (Rw.src (k := 0) rfl) el102 src102 g51 (fun v56 => ⟨⟨[_], (.same (.lose (.same (.same (.lose .refl))))), l0⟩, ?_⟩))
   refine tx 12 rfl (.lose (.same (.same (.lose .refl)))) hQ (fun _ _ _ => Y.nilCheck rfl) ?_
   refine tx 13 rfl (.lose (.same (.same (.lose .refl)))) hQ (fun _ _ _ => Y.fieldAddr 0 rfl fld168_0 rfl) ?_
   refine GDr.rowOne 1 rfl (fun z57 => ?_)
   refine g1 14 ?_
   refine n2 rfl (OS.store 4 0 1 [sV v56, sV (.int .i64 x38.err)] (r := [sV v56]) rfl rfl (cells_one z57) (oV (z57) oN) rfl rfl size102 (by kernel_rfl) (by kernel_rfl) (by kernel_rfl) ⟨⟨[_], (.same (.lose (.same (.same (.lose .refl))))), l0⟩, ?_⟩)
   refine dn ?_
   refine GX.normal_block ?_
   refine GX.then hK45 ?_
   refine G.region ?_
   refine mv ?_
   refine vl (Y.subI rfl rfl) ?_
   refine an ?_
   refine GO.nil ?_
   obtain rfl := Option.some.inj h
   refine GX.foldW 4 1 rfl rfl (by decide) ?_
   refine GX.keep [6, 0, 1] rfl ?_
   refine GX.less 2 rfl ?_
   exact hK2 _ _ _ _ rfl ⟨e36, rfl, rfl⟩
  replace h := ite_f c44 h
  refine G.exit ?_
  refine GX.exit_then ?_
  obtain rfl := Option.some.inj h
  refine GX.keep [] rfl ?_
  exact hx39 _ _ _ ⟨_, _, e36, (hf2 _ rfl).symm, rfl, rfl⟩
 ·exact ⟨Hp.le_refl _, rfl, rfl⟩
 rintro ⟨x15, x16⟩ _ S13 _ ⟨e14, rfl, rfl⟩ out1 h hf1 K1 hK1 hx17
 rw [code_Writer_Number_s1] at h
 refine G.seq (fun _ hK20 => ?_)
 refine sr (fun _ hK21 => ?_)
 refine mv ?_
 refine vl (Y.gtI rfl rfl) ?_
 refine nt hK21 ?_
 refine G.cond _ rfl (fun c22 => ?_) (fun c22 => ?_)
 ·replace h := ite_t c22 h
  refine sk hK20 ?_
  refine G.seq (fun _ hK23 => ?_)
  refine G.block ?_
  refine G.region ?_
  refine mv ?_
  refine vl (Y.addI rfl rfl) ?_
  refine an ?_
  refine GO.nil ?_
  refine GX.normal_block ?_
  refine GX.then hK23 ?_
  refine G.region ?_
  refine mv ?_
  refine vl (Y.shr_i64 rfl rfl (by decide)) ?_
  refine an ?_
  refine GO.nil ?_
  obtain rfl := Option.some.inj h
  refine GX.keep [5, 4, 0, 1] rfl ?_
  exact hK1 _ _ _ _ rfl ⟨e14, rfl, rfl⟩
 replace h := ite_f c22 h
 refine G.exit ?_
 refine GX.exit_then ?_
 obtain rfl := Option.some.inj h
 refine GX.keep [4, 0, 1] rfl ?_
 exact hx17 _ _ _ ⟨_, _, e14, (hf1 _ rfl).symm, rfl, rfl⟩

/- (*chirograph/code.Writer).Done -/
def code_Writer_Done  (a0 : Wr) : Option (Str × Int × Wr) :=
 (if (a0.err != (0 : Int)) = true then some (([] : Str), a0.err, a0) else (if (decide ((65536 : Int) < (lenI a0.b))) = true then some (([] : Str), (2 : Int), a0) else some (a0.b, (0 : Int), a0)))

theorem code_Writer_Done_ok {S : Hp} (a0 : Wr) {b0 : Nat} {r : Str × Int × Wr} (h : code_Writer_Done a0 = some r) : FnP Tryz.prog 106 [.pointer (some ⟨b0, 0, none⟩)] S (WrA b0 a0) (fun v S' A' => v = .tuple #[strV r.1, .int .i64 r.2.1] ∧ A' = WrA b0 r.2.2) := by
 unfold code_Writer_Done at h
 refine Fn.ofP [.tmp 2, .tmp 3] 24 Tryz.func106 rfl Tryz.ntmps106 (Nat.le_of_ble_eq_true rfl) rfl (fun o F Q hQ hN hret => ?_)
 refine sr (fun _ hK1 => ?_)
 refine an ?_
 refine an ?_
 refine nt hK1 ?_
 refine G.seq (fun _ hK2 => ?_)
 refine sr (fun _ hK3 => ?_)
 refine mv ?_
 refine vl (Y.nilCheck rfl) ?_
 refine GO.openW 0 rfl (fun v4 => ?_)
 refine vl (Y.fieldAddr 1 rfl fld168_1 rfl) ?_
 refine lv 1 1 one38 ?_
 refine vl (Y.neI rfl rfl) ?_
 refine nt hK3 ?_
 refine G.cond _ rfl (fun c6 => ?_) (fun c6 => ?_)
 ·replace h := ite_t c6 h
  refine G.seq (fun _ hK7 => ?_)
  refine G.drawN 6 mixed (by kernel_rfl) ?_
  refine tn 0 rfl hQ (fun _ _ _ => Y.move rfl) ?_
  refine tn 1 rfl hQ (fun _ _ _ => Y.nilCheck rfl) ?_
  refine tn 2 rfl hQ (fun _ _ _ => Y.fieldAddr 1 rfl fld168_1 rfl) ?_
  refine tn 3 rfl hQ (fun S₀ X₀ e₀ => Y.loadV (X₀.length + 1)  1 _ rfl (Lk rfl) rfl rfl one38) ?_
  refine tn 4 rfl hQ (fun _ _ _ => Y.assign rfl) ?_
  refine tn 5 rfl hQ (fun _ _ _ => Y.assign rfl) ?_
  refine dn ?_
  refine GX.then hK7 ?_
  refine G.ret ?_
  refine GX.foldW 1 0 rfl rfl (by decide) ?_
  obtain rfl := Option.some.inj h
  exact hret _ _ _ _ _ 1 l0 (.cons (.tmp rfl) (.cons (.tmp rfl) .nil)) ⟨rfl, rfl⟩ rfl
 replace h := ite_f c6 h
 refine sk hK2 ?_
 refine G.seq (fun _ hK8 => ?_)
 refine sr (fun _ hK9 => ?_)
 refine mv ?_
 refine vl (Y.nilCheck rfl) ?_
 refine vl (Y.fieldAddr 0 rfl fld168_0 rfl) ?_
 refine lv 1 0 one102 ?_
 refine vl (Y.lenR 0  rfl rfl slc102) ?_
 refine vl (Y.gtI rfl rfl) ?_
 refine nt hK9 ?_
 refine G.cond _ rfl (fun c10 => ?_) (fun c10 => ?_)
 ·replace h := ite_t c10 h
  refine sr (fun _ hK11 => ?_)
  refine an ?_
  refine an ?_
  refine nt hK11 ?_
  refine G.ret ?_
  refine GX.foldW 1 0 rfl rfl (by decide) ?_
  obtain rfl := Option.some.inj h
  exact hret _ _ _ _ _ 1 l0 (.cons (.tmp rfl) (.cons (.tmp rfl) .nil)) ⟨rfl, rfl⟩ rfl
 replace h := ite_f c10 h
 refine sk hK8 ?_
 refine sr (fun _ hK12 => ?_)
 refine mv ?_
 refine vl (Y.nilCheck rfl) ?_
 refine vl (Y.fieldAddr 0 rfl fld168_0 rfl) ?_
 refine lv 1 0 one102 ?_
 refine vl (Y.convBS rfl (Rw.bsrc (k := 0 ) rfl) byt102 sty9) ?_
 refine an ?_
 refine an ?_
 refine nt hK12 ?_
 refine G.ret ?_
 refine GX.foldW 1 0 rfl rfl (by decide) ?_
 obtain rfl := Option.some.inj h
 exact hret _ _ _ _ _ 1 l0 (.cons (.tmp rfl) (.cons (.tmp rfl) .nil)) ⟨rfl, rfl⟩ rfl

/- (*chirograph/code.Writer).Flag -/
def code_Writer_Flag  (a0 : Wr) (a1 : Bool) : Option Wr :=
 (if a1 = true then ((req (List.length a0.b + List.length ([1] : List UInt8) ≤ LIM)).bind fun _ => some (⟨(a0.b ++ ([1] : List UInt8)), a0.err⟩ : Wr)) else ((req (List.length a0.b + List.length ([0] : List UInt8) ≤ LIM)).bind fun _ => some (⟨(a0.b ++ ([0] : List UInt8)), a0.err⟩ : Wr)))

theorem code_Writer_Flag_ok {S : Hp} (a0 : Wr) (a1 : Bool) {b0 : Nat} {r : Wr} (h : code_Writer_Flag a0 a1 = some r) : FnP Tryz.prog 176 [.pointer (some ⟨b0, 0, none⟩), .bool a1] S (WrA b0 a0) (fun v S' A' => v = .tuple #[] ∧ A' = WrA b0 r) := by
 unfold code_Writer_Flag at h
 refine Fn.ofP [] 16 Tryz.func176 rfl Tryz.ntmps176 (Nat.le_of_ble_eq_true rfl) rfl (fun o F Q hQ hN hret => ?_)
 refine sr (fun _ hK1 => ?_)
 refine an ?_
 refine nt hK1 ?_
 refine G.seq (fun _ hK2 => ?_)
 refine sr (fun _ hK3 => ?_)
 refine mv ?_
 refine nt hK3 ?_
 refine G.cond _ rfl (fun c4 => ?_) (fun c4 => ?_)
 ·replace h := ite_t c4 h
  refine G.region ?_
  refine an ?_
  refine nt hK2 ?_
  refine G.region ?_
  refine mv ?_
  refine mv ?_
  refine vl (Y.nilCheck rfl) ?_
  refine GO.openW 0 rfl (fun v5 => ?_)
  refine vl (Y.fieldAddr 0 rfl fld168_0 rfl) ?_
  refine lv 1 0 one102 ?_
  refine mv ?_
  refine bs ([1] : List UInt8) el102 (fun v7 => ?_)
  obtain ⟨g9, h⟩ := req_bind h
  refine st (OS.append (xs := a0.b) (ys := ([1] : List UInt8)) 1 (by decide) rfl rfl rfl (Rw.src (k := 0) rfl) el102 src102 g9 (fun v10 => ?_))
  refine vl (Y.nilCheck rfl) ?_
  refine vl (Y.fieldAddr 0 rfl fld168_0 rfl) ?_
  refine GO.rowOne 1 rfl (fun z11 => ?_)
  refine so 2 0 1 [sV v10, sV (.int .i64 a0.err)] (r := [sV v10]) (cells_one z11) (oV (z11) oN) size102 ?_
  refine GO.nil ?_
  refine GX.fall hN ?_
  refine GX.foldW 2 1 rfl rfl (by decide) ?_
  obtain rfl := Option.some.inj h
  exact hret _ _ _ _ _ 2 l0 .nil ⟨rfl, rfl⟩ rfl
 replace h := ite_f c4 h
 refine sk hK2 ?_
 refine G.region ?_
 refine mv ?_
 refine mv ?_
 refine vl (Y.nilCheck rfl) ?_
 refine GO.openW 0 rfl (fun v12 => ?_)
 refine vl (Y.fieldAddr 0 rfl fld168_0 rfl) ?_
 refine lv 1 0 one102 ?_
 refine mv ?_
 refine bs ([0] : List UInt8) el102 (fun v14 => ?_)
 obtain ⟨g16, h⟩ := req_bind h
 refine st (OS.append (xs := a0.b) (ys := ([0] : List UInt8)) 1 (by decide) rfl rfl rfl (Rw.src (k := 0) rfl) el102 src102 g16 (fun v17 => ?_))
 refine vl (Y.nilCheck rfl) ?_
 refine vl (Y.fieldAddr 0 rfl fld168_0 rfl) ?_
 refine GO.rowOne 1 rfl (fun z18 => ?_)
 refine so 2 0 1 [sV v17, sV (.int .i64 a0.err)] (r := [sV v17]) (cells_one z18) (oV (z18) oN) size102 ?_
 refine GO.nil ?_
 refine GX.fall hN ?_
 refine GX.foldW 2 1 rfl rfl (by decide) ?_
 obtain rfl := Option.some.inj h
 exact hret _ _ _ _ _ 2 l0 .nil ⟨rfl, rfl⟩ rfl

/- (*chirograph/code.Writer).Label -/
def code_Writer_Label  (a0 : Wr) (a1 : Lab) : Option Wr :=
 ((req (List.length a0.b + List.length a1.toList ≤ LIM)).bind fun _ => some (⟨(a0.b ++ a1.toList), a0.err⟩ : Wr))

theorem code_Writer_Label_ok {S : Hp} (a0 : Wr) (a1 : Lab) {b0 : Nat} {r : Wr} (h : code_Writer_Label a0 a1 = some r) : FnP Tryz.prog 177 [.pointer (some ⟨b0, 0, none⟩), aggV [sL a1]] S (WrA b0 a0) (fun v S' A' => v = .tuple #[] ∧ A' = WrA b0 r) := by
 unfold code_Writer_Label at h
 refine Fn.ofP [] 13 Tryz.func177 rfl Tryz.ntmps177 (Nat.le_of_ble_eq_true rfl) rfl (fun o F Q hQ hN hret => ?_)
 refine sr (fun _ hK1 => ?_)
 refine st (OS.boxA (by decide) rfl (fun ad2 => ?_))
 refine nt hK1 ?_
 refine G.openW 1 rfl (fun v4 => ?_)
 obtain ⟨g6, h⟩ := req_bind h
 refine G.drawS 6 _ ((fun _ => True) :: Blk ad2 [sL a1] :: (fun _ => True) :: F) mixed .refl (by kernel_rfl) ?_
 refine tx 0 rfl (.lose (.same (.lose .refl))) hQ (fun _ _ _ => Y.move rfl) ?_
 refine tx 1 rfl (.lose (.same (.lose .refl))) hQ (fun _ _ _ => Y.move rfl) ?_
 refine tx 2 rfl (.lose (.same (.lose .refl))) hQ (fun _ _ _ => Y.nilCheck rfl) ?_
 refine tx 3 rfl (.lose (.same (.lose .refl))) hQ (fun _ _ _ => Y.fieldAddr 0 rfl fld168_0 rfl) ?_
 refine tk 4 [4, 6] rfl hQ Gd.none (fun S₀ X₀ e₀ => Y.loadV (X₀.length + 2)  0 _ rfl (Lk rfl) rfl rfl one102) ?_
 refine tx 5 rfl (.lose (.same (.lose .refl))) hQ (fun _ _ _ => Y.sliceArr rfl arr23 (by decide)) ?_
 refine g1 6 ?_
 refine n2 rfl (OS.append (xs := a0.b) (ys := a1.toList) 0 (by decide) rfl rfl rfl (Blk.srcLab (k := 1) (i := 0) rfl rfl rfl) el102 src102 g6 (fun v9 => ⟨⟨[], (.lose (.same (.lose .refl))), l0⟩, ?_⟩))
 refine tx 7 rfl (.lose (.same (.lose .refl))) hQ (fun _ _ _ => Y.nilCheck rfl) ?_
 refine tx 8 rfl (.lose (.same (.lose .refl))) hQ (fun _ _ _ => Y.fieldAddr 0 rfl fld168_0 rfl) ?_
 refine GDr.rowOne 0 rfl (fun z10 => ?_)
 refine g1 9 ?_
 refine n2 rfl (OS.store 2 0 1 [sV v9, sV (.int .i64 a0.err)] (r := [sV v9]) rfl rfl (cells_one z10) (oV (z10) oN) rfl rfl size102 (by kernel_rfl) (by kernel_rfl) (by kernel_rfl) ⟨⟨[], (.lose (.same (.lose .refl))), l0⟩, ?_⟩)
 refine dn ?_
 refine GX.fall hN ?_
 refine GX.foldW 2 0 rfl rfl (by decide) ?_
 obtain rfl := Option.some.inj h
 exact hret _ _ _ _ _ 2 l0 .nil ⟨rfl, rfl⟩ rfl

end
end Go.Ch
end
section
/- Functions of the program: what each comes to, proved. -/
set_option linter.unusedVariables false
set_option linter.unusedSimpArgs false
set_option maxRecDepth 100000
set_option maxHeartbeats 4000000
namespace Go.Ch
open Go.RowKit (wrap64)
open Go.Proofs
noncomputable section
/- chirograph/node.joined -/
def node_joined_s1 (a1 : (List Str)) : (Int × (List UInt8)) → Option ((Int × (List UInt8)) ⊕ (Int × (List UInt8)))
 | (x9, x10) => (if (decide (x9 < (lenI a1))) = true then ((req ((0 : Int) ≤ x9 ∧ x9 < lenI a1)).bind fun _ => ((req (List.length x10 + List.length ([(u8I (shrInt (lenI (getI a1 x9)) 24)), (u8I (shrInt (lenI (getI a1 x9)) 16)), (u8I (shrInt (lenI (getI a1 x9)) 8)), (u8I (lenI (getI a1 x9)))] : List UInt8) ≤ LIM)).bind fun _ => ((req (List.length (x10 ++ ([(u8I (shrInt (lenI (getI a1 x9)) 24)), (u8I (shrInt (lenI (getI a1 x9)) 16)), (u8I (shrInt (lenI (getI a1 x9)) 8)), (u8I (lenI (getI a1 x9)))] : List UInt8)) + List.length (getI a1 x9) ≤ LIM)).bind fun _ => some (.inl ((wrap64 (x9 + (1 : Int))), ((x10 ++ ([(u8I (shrInt (lenI (getI a1 x9)) 24)), (u8I (shrInt (lenI (getI a1 x9)) 16)), (u8I (shrInt (lenI (getI a1 x9)) 8)), (u8I (lenI (getI a1 x9)))] : List UInt8)) ++ (getI a1 x9))))))) else some (.inr (x9, x10)))

def node_joined  (a0 : UInt8) (a1 : (List Str)) : Option Str :=
 ((iter (node_joined_s1 a1) ((0 : Int), ([a0] : List UInt8))).bind fun b13 => (match b13 with | (x9, x10) => some x10))

theorem node_joined_ok {S : Hp} (a0 : UInt8) (a1 : (List Str)) {va1 : Value} (qa1 : Sls S va1 a1) {r : Str} (h : node_joined a0 a1 = some r) : Fn Tryz.prog 138 [u8V a0, va1] S (fun v S' => v = strV r) := by
 unfold node_joined at h
 refine fo [.tmp 4] 39 Tryz.func138 Tryz.ntmps138 (fun o F Q hQ hN hret => ?_)
 refine sr (fun _ hK1 => ?_)
 refine an ?_
 refine nt hK1 ?_
 refine sr (fun _ hK2 => ?_)
 refine mv ?_
 refine bs ([a0] : List UInt8) el102 (fun v3 => ?_)
 refine an ?_
 refine nt hK2 ?_
 refine G.seq (fun _ hK5 => ?_)
 refine sr (fun _ hK6 => ?_)
 refine mv ?_
 refine vl (Y.lenS rfl qa1 slc58) ?_
 refine mv ?_
 refine nt hK6 ?_
 refine G.block ?_
 obtain ⟨b13, wb13, ho14⟩ := bind_some' h
 refine G.keep [13, 12, 11, 5] rfl ?_
 refine G.loopK (node_joined_s1 a1) (fun s₀ E' S' L' => match s₀ with | (x9, x10) => S.le S' ∧ ∃ (v11 : Value), E' = [(13, .int .i64 x9), (12, .int .i64 (lenI a1)), (11, va1), (5, v11)] ∧ Rw v11 x10 :: F = L') b13 0 (fun E₀ S₀ L₀ => ∃ (x9 : Int) (x10 : (List UInt8)) (v11 : Value), S.le S₀ ∧ b13 = (x9, x10) ∧ E₀ = [(5, v11)] ∧ Rw v11 x10 :: F = L₀) wb13 ?_ ?_ ?_
 ·rintro _ S33 _ ⟨x9, x10, v11, e34, rfl, rfl, rfl⟩
  have h := ho14; clear ho14
  try dsimp only at h
  refine GX.exit_block ?_
  refine GX.then hK5 ?_
  refine sr (fun _ hK35 => ?_)
  refine mv ?_
  refine vl (Y.convBS rfl (Rw.bsrc (k := 0 ) rfl) byt102 sty9) ?_
  refine an ?_
  refine nt hK35 ?_
  refine G.ret ?_
  obtain rfl := Option.some.inj h
  exact hret _ _ _ _ 1 e34 (.cons (.tmp rfl) .nil) rfl rfl
 ·exact ⟨Hp.le_refl _, v3, rfl, rfl⟩
 rintro ⟨x9, x10⟩ _ S7 _ ⟨e8, v11, rfl, rfl⟩ out1 h hf1 K1 hK1 hx12
 rw [node_joined_s1] at h
 replace qa1 := qa1.up e8
 refine sr (fun _ hK15 => ?_)
 refine vl (Y.ltI rfl rfl) ?_
 refine nt hK15 ?_
 refine G.seq (fun _ hK16 => ?_)
 refine G.cond _ rfl (fun c17 => ?_) (fun c17 => ?_)
 ·replace h := ite_t c17 h
  refine sk hK16 ?_
  refine G.seq (fun _ hK18 => ?_)
  refine G.block ?_
  refine sr (fun _ hK19 => ?_)
  obtain ⟨g20, h⟩ := req_bind h
  obtain ⟨ad21, p22, z23, q24⟩ := Sls.at qa1 g20
  refine vl (Y.idxS rfl z23 rfl slc58 g20) ?_
  refine vl (Y.loadSV _ rfl (At.val (At.part q24 0 1 [sV (strV (getI a1 x9))] rfl rfl)) one9) ?_
  refine an ?_
  refine nt hK19 ?_
  refine sr (fun _ hK25 => ?_)
  refine mv ?_
  refine vl (Y.lenStr (v := (getI a1 x9)) rfl sty9) ?_
  refine an ?_
  refine nt hK25 ?_
  refine sr (fun _ hK26 => ?_)
  refine mv ?_
  refine mv ?_
  refine vl (Y.shr_i64 rfl rfl (by decide)) ?_
  refine vl (Y.cv_i64_u8 (a := (shrInt (lenI (getI a1 x9)) 24)) rfl int3 int5) ?_
  refine mv ?_
  refine vl (Y.shr_i64 rfl rfl (by decide)) ?_
  refine vl (Y.cv_i64_u8 (a := (shrInt (lenI (getI a1 x9)) 16)) rfl int3 int5) ?_
  refine mv ?_
  refine vl (Y.shr_i64 rfl rfl (by decide)) ?_
  refine vl (Y.cv_i64_u8 (a := (shrInt (lenI (getI a1 x9)) 8)) rfl int3 int5) ?_
  refine mv ?_
  refine vl (Y.cv_i64_u8 (a := (lenI (getI a1 x9))) rfl int3 int5) ?_
  refine bs ([(u8I (shrInt (lenI (getI a1 x9)) 24)), (u8I (shrInt (lenI (getI a1 x9)) 16)), (u8I (shrInt (lenI (getI a1 x9)) 8)), (u8I (lenI (getI a1 x9)))] : List UInt8) el102 (fun v27 => ?_)
  obtain ⟨g29, h⟩ := req_bind h
  refine st (OS.append (xs := x10) (ys := ([(u8I (shrInt (lenI (getI a1 x9)) 24)), (u8I (shrInt (lenI (getI a1 x9)) 16)), (u8I (shrInt (lenI (getI a1 x9)) 8)), (u8I (lenI (getI a1 x9)))] : List UInt8)) 1 (by decide) rfl rfl rfl (Rw.src (k := 0) rfl) el102 src102 g29 (fun v30 => ?_))
  refine an ?_
  refine nt hK26 ?_
  refine G.region ?_
  refine mv ?_
  refine mv ?_
  obtain ⟨g31, h⟩ := req_bind h
  refine st (OS.append (xs := (x10 ++ ([(u8I (shrInt (lenI (getI a1 x9)) 24)), (u8I (shrInt (lenI (getI a1 x9)) 16)), (u8I (shrInt (lenI (getI a1 x9)) 8)), (u8I (lenI (getI a1 x9)))] : List UInt8))) (ys := (getI a1 x9)) 1 (by decide) rfl rfl rfl strV.src el102 src9 g31 (fun v32 => ?_))
  refine an ?_
  refine GO.nil ?_
  refine GX.normal_block ?_
  refine GX.then hK18 ?_
  refine G.region ?_
  refine vl (Y.addI rfl rfl) ?_
  refine mv ?_
  refine GO.nil ?_
  obtain rfl := Option.some.inj h
  refine GX.keep [13, 12, 11, 5] rfl ?_
  refine GX.less 1 rfl ?_
  exact hK1 _ _ _ _ rfl ⟨e8, v32, rfl, rfl⟩
 replace h := ite_f c17 h
 refine G.exit ?_
 refine GX.exit_then ?_
 obtain rfl := Option.some.inj h
 refine GX.keep [5] rfl ?_
 exact hx12 _ _ _ ⟨_, _, _, e8, (hf1 _ rfl).symm, rfl, rfl⟩

/- chirograph/node.number -/
def node_number_s1 (a0 : Int) : (Int × (List UInt8)) → Option ((Int × (List UInt8)) ⊕ (Int × (List UInt8)))
 | (x10, x11) => (if (decide (x10 < (lenI (List.replicate (Int.toNat (8 : Int)) (default : UInt8))))) = true then ((req (0 ≤ (wrap64 ((56 : Int) - (wrap64 ((8 : Int) * x10)))))).bind fun _ => ((req ((0 : Int) ≤ x10 ∧ x10 < lenI x11)).bind fun _ => some (.inl ((wrap64 (x10 + (1 : Int))), (x11.set (Int.toNat x10) ((hr_u64 (u64I a0) (wrap64 ((56 : Int) - (wrap64 ((8 : Int) * x10))))).toUInt8)))))) else some (.inr (x10, x11)))

def node_number  (a0 : Int) : Option Str :=
 ((req ((0 : Int) ≤ (8 : Int) ∧ (8 : Int) ≤ (LIM : Nat))).bind fun _ => ((iter (node_number_s1 a0) ((0 : Int), (List.replicate (Int.toNat (8 : Int)) (default : UInt8)))).bind fun b13 => (match b13 with | (x10, x11) => some x11)))

theorem node_number_ok {S : Hp} (a0 : Int) {r : Str} (h : node_number a0 = some r) : Fn Tryz.prog 139 [.int .i64 a0] S (fun v S' => v = strV r) := by
 unfold node_number at h
 refine fo [.tmp 2] 24 Tryz.func139 Tryz.ntmps139 (fun o F Q hQ hN hret => ?_)
 refine sr (fun _ hK1 => ?_)
 refine an ?_
 refine nt hK1 ?_
 refine sr (fun _ hK2 => ?_)
 obtain ⟨g3, h⟩ := req_bind h
 refine st (OS.make (by decide) rfl rfl elz102 g3 (fun v4 => ?_))
 refine an ?_
 refine nt hK2 ?_
 refine G.seq (fun _ hK6 => ?_)
 refine sr (fun _ hK7 => ?_)
 refine mv ?_
 refine vl (Y.lenR 0  rfl rfl slc102) ?_
 refine mv ?_
 refine nt hK7 ?_
 refine G.block ?_
 obtain ⟨b13, wb13, ho14⟩ := bind_some' h
 refine G.keep [8, 7, 3, 0] rfl ?_
 refine G.loopK (node_number_s1 a0) (fun s₀ E' S' L' => match s₀ with | (x10, x11) => S.le S' ∧ E' = [(8, .int .i64 x10), (7, .int .i64 (lenI (List.replicate (Int.toNat (8 : Int)) (default : UInt8)))), (3, v4), (0, .int .i64 a0)] ∧ Rw v4 x11 :: F = L') b13 0 (fun E₀ S₀ L₀ => ∃ (x10 : Int) (x11 : (List UInt8)), S.le S₀ ∧ b13 = (x10, x11) ∧ E₀ = [(3, v4)] ∧ Rw v4 x11 :: F = L₀) wb13 ?_ ?_ ?_
 ·rintro _ S25 _ ⟨x10, x11, e26, rfl, rfl, rfl⟩
  have h := ho14; clear ho14
  try dsimp only at h
  refine GX.exit_block ?_
  refine GX.then hK6 ?_
  refine sr (fun _ hK27 => ?_)
  refine mv ?_
  refine vl (Y.convBS rfl (Rw.bsrc (k := 0 ) rfl) byt102 sty9) ?_
  refine an ?_
  refine nt hK27 ?_
  refine G.ret ?_
  obtain rfl := Option.some.inj h
  exact hret _ _ _ _ 1 e26 (.cons (.tmp rfl) .nil) rfl rfl
 ·exact ⟨Hp.le_refl _, rfl, rfl⟩
 rintro ⟨x10, x11⟩ _ S8 _ ⟨e9, rfl, rfl⟩ out1 h hf1 K1 hK1 hx12
 rw [node_number_s1] at h
 refine sr (fun _ hK15 => ?_)
 refine vl (Y.ltI rfl rfl) ?_
 refine nt hK15 ?_
 refine G.seq (fun _ hK16 => ?_)
 refine G.cond _ rfl (fun c17 => ?_) (fun c17 => ?_)
 ·replace h := ite_t c17 h
  refine sk hK16 ?_
  refine G.seq (fun _ hK18 => ?_)
  refine G.block ?_
  refine sr (fun _ hK19 => ?_)
  refine mv ?_
  refine an ?_
  refine nt hK19 ?_
  refine G.region ?_
  refine mv ?_
  refine mv ?_
  refine mv ?_
  refine vl (Y.cv_i64_u64 (a := a0) rfl int3 int204) ?_
  refine mv ?_
  refine vl (Y.mulI rfl rfl) ?_
  refine vl (Y.subI rfl rfl) ?_
  obtain ⟨g20, h⟩ := req_bind h
  refine vl (Y.shr_u64 (a := (u64I a0)) (c := (wrap64 ((56 : Int) - (wrap64 ((8 : Int) * x10))))) rfl rfl g20) ?_
  refine vl (Y.cv_u64_u8 (a := (hr_u64 (u64I a0) (wrap64 ((56 : Int) - (wrap64 ((8 : Int) * x10)))))) rfl int204 int5) ?_
  obtain ⟨g21, h⟩ := req_bind h
  refine GO.rowAt 0 rfl g21 (fun ad22 p23 z24 => ?_)
  refine vl (Y.idxR rfl z24 rfl slc102 g21) ?_
  refine st (OS.storeRow 0 x10 ((hr_u64 (u64I a0) (wrap64 ((56 : Int) - (wrap64 ((8 : Int) * x10))))).toUInt8) rfl rfl rfl rfl z24 g21 rfl size5 ?_)
  refine GO.nil ?_
  refine GX.normal_block ?_
  refine GX.then hK18 ?_
  refine G.region ?_
  refine vl (Y.addI rfl rfl) ?_
  refine mv ?_
  refine GO.nil ?_
  obtain rfl := Option.some.inj h
  refine GX.keep [8, 7, 3, 0] rfl ?_
  exact hK1 _ _ _ _ rfl ⟨e9, rfl, rfl⟩
 replace h := ite_f c17 h
 refine G.exit ?_
 refine GX.exit_then ?_
 obtain rfl := Option.some.inj h
 refine GX.keep [3] rfl ?_
 exact hx12 _ _ _ ⟨_, _, e9, (hf1 _ rfl).symm, rfl, rfl⟩

/- chirograph/node.text -/
def node_text  (a0 : Item) : Option Str :=
 ((node_number a0.len).bind fun t5 => ((req (List.length t5 + List.length a0.bits.toList ≤ LIM)).bind fun _ => ((req (List.length (t5 ++ a0.bits.toList) + List.length a0.sum.toList ≤ LIM)).bind fun _ => ((node_number a0.at_).bind fun t12 => ((req (List.length ((t5 ++ a0.bits.toList) ++ a0.sum.toList) + List.length t12 ≤ LIM)).bind fun _ => some (((t5 ++ a0.bits.toList) ++ a0.sum.toList) ++ t12))))))

theorem node_text_ok {S : Hp} (a0 : Item) {r : Str} (h : node_text a0 = some r) : Fn Tryz.prog 140 [aggV [sV (.int .i64 a0.len), sL a0.bits, sL a0.sum, sV (.int .i64 a0.at_)]] S (fun v S' => v = strV r) := by
 unfold node_text at h
 refine fo [.tmp 2] 20 Tryz.func140 Tryz.ntmps140 (fun o F Q hQ hN hret => ?_)
 refine sr (fun _ hK1 => ?_)
 refine st (OS.boxA (by decide) rfl (fun ad2 => ?_))
 refine an ?_
 refine nt hK1 ?_
 refine G.seq (fun _ hK4 => ?_)
 obtain ⟨t5, wt5, h⟩ := bind_some' h
 obtain ⟨g10, h⟩ := req_bind h
 obtain ⟨g11, h⟩ := req_bind h
 obtain ⟨t12, wt12, h⟩ := bind_some' h
 obtain ⟨g17, h⟩ := req_bind h
 refine G.drawN 18 mixed (by kernel_rfl) ?_
 refine tn 0 rfl hQ (fun _ _ _ => Y.fieldAddr 0 rfl fld29_0 rfl) ?_
 refine tn 1 rfl hQ (fun _ _ _ => Y.fieldAddr 0 rfl fld27_0 rfl) ?_
 refine tn 2 rfl hQ (fun S₀ X₀ e₀ => Y.loadV (X₀.length + 0)  0 _ rfl (Lk rfl) rfl rfl one3) ?_
 refine tn 4 rfl hQ (fun _ _ _ => Y.fieldAddr 0 rfl fld29_0 rfl) ?_
 refine tn 5 rfl hQ (fun _ _ _ => Y.fieldAddr 1 rfl fld27_1 rfl) ?_
 refine tn 6 rfl hQ (fun _ _ _ => Y.sliceArr rfl arr23 (by decide)) ?_
 refine tn 7 rfl hQ (fun S₀ X₀ e₀ => Y.convBS rfl (Blk.bsrcLab (k := (X₀.length + 0) ) (i := 1) (Lk rfl) rfl rfl) byt102 sty9) ?_
 refine tn 9 rfl hQ (fun _ _ _ => Y.fieldAddr 33 rfl fld29_1 rfl) ?_
 refine tn 10 rfl hQ (fun _ _ _ => Y.sliceArr rfl arr23 (by decide)) ?_
 refine tn 11 rfl hQ (fun S₀ X₀ e₀ => Y.convBS rfl (Blk.bsrcLab (k := (X₀.length + 0) ) (i := 2) (Lk rfl) rfl rfl) byt102 sty9) ?_
 refine tn 13 rfl hQ (fun _ _ _ => Y.fieldAddr 65 rfl fld29_2 rfl) ?_
 refine tn 14 rfl hQ (fun S₀ X₀ e₀ => Y.loadV (X₀.length + 0)  3 _ rfl (Lk rfl) rfl rfl one3) ?_
 refine g1 3 ?_
 refine n1 rfl (cl fb139 (node_number_ok a0.len wt5) (fun v18 S19 e20 z21 => ⟨⟨[], .refl, e20⟩, ?_⟩))
 obtain rfl := z21
 refine tn 8 rfl hQ (fun _ _ _ => Y.addStr (a := t5) (b := a0.bits.toList) rfl rfl g10) ?_
 refine tn 12 rfl hQ (fun _ _ _ => Y.addStr (a := (t5 ++ a0.bits.toList)) (b := a0.sum.toList) rfl rfl g11) ?_
 refine g1 15 ?_
 refine n1 rfl (cl fb139 (node_number_ok a0.at_ wt12) (fun v22 S23 e24 z25 => ⟨⟨[], .refl, (l2 e20 e24)⟩, ?_⟩))
 obtain rfl := z25
 refine tn 16 rfl hQ (fun _ _ _ => Y.addStr (a := ((t5 ++ a0.bits.toList) ++ a0.sum.toList)) (b := t12) rfl rfl g17) ?_
 refine tn 17 rfl hQ (fun _ _ _ => Y.assign rfl) ?_
 refine dn ?_
 refine GX.then hK4 ?_
 refine G.ret ?_
 obtain rfl := Option.some.inj h
 exact hret _ _ _ _ 1 (l2 e20 e24) (.cons (.tmp rfl) .nil) rfl rfl

/- chirograph/node.InnerBytes -/
def node_InnerBytes  (a0 : Inner) : Option Str :=
 ((node_text a0.l).bind fun t5 => ((node_text a0.r).bind fun t10 => ((node_joined 17 ([t5, t10] : List Str)).bind fun t20 => some t20)))

theorem node_InnerBytes_ok {S : Hp} (a0 : Inner) {r : Str} (h : node_InnerBytes a0 = some r) : Fn Tryz.prog 65 [aggV [sV (.int .i64 a0.l.len), sL a0.l.bits, sL a0.l.sum, sV (.int .i64 a0.l.at_), sV (.int .i64 a0.r.len), sL a0.r.bits, sL a0.r.sum, sV (.int .i64 a0.r.at_)]] S (fun v S' => v = strV r) := by
 unfold node_InnerBytes at h
 refine fo [.tmp 2] 11 Tryz.func65 Tryz.ntmps65 (fun o F Q hQ hN hret => ?_)
 refine sr (fun _ hK1 => ?_)
 refine st (OS.boxA (by decide) rfl (fun ad2 => ?_))
 refine an ?_
 refine nt hK1 ?_
 refine G.seq (fun _ hK4 => ?_)
 obtain ⟨t5, wt5, h⟩ := bind_some' h
 obtain ⟨t10, wt10, h⟩ := bind_some' h
 obtain ⟨t20, wt20, h⟩ := bind_some' h
 refine G.drawN 9 mixed (by kernel_rfl) ?_
 refine tn 0 rfl hQ (fun _ _ _ => Y.fieldAddr 0 rfl fld31_0 rfl) ?_
 refine tn 1 rfl hQ (fun S₀ X₀ e₀ => Y.loadB (X₀.length + 0)  0 4 [sV (.int .i64 a0.l.len), sL a0.l.bits, sL a0.l.sum, sV (.int .i64 a0.l.at_)] rfl (Lk rfl) rfl rfl row29 (by kernel_rfl)) ?_
 refine tn 3 rfl hQ (fun _ _ _ => Y.fieldAddr 66 rfl fld31_1 rfl) ?_
 refine tn 4 rfl hQ (fun S₀ X₀ e₀ => Y.loadB (X₀.length + 0)  4 4 [sV (.int .i64 a0.r.len), sL a0.r.bits, sL a0.r.sum, sV (.int .i64 a0.r.at_)] rfl (Lk rfl) rfl rfl row29 (by kernel_rfl)) ?_
 refine g1 2 ?_
 refine n1 rfl (cl fb140 (node_text_ok a0.l wt5) (fun v26 S27 e28 z29 => ⟨⟨[], .refl, e28⟩, ?_⟩))
 obtain rfl := z29
 refine g1 5 ?_
 refine n1 rfl (cl fb140 (node_text_ok a0.r wt10) (fun v30 S31 e32 z33 => ⟨⟨[], .refl, (l2 e28 e32)⟩, ?_⟩))
 obtain rfl := z33
 refine g1 6 ?_
 refine n1 rfl (OS.buildSliceE ([t5, t10] : List Str) (by decide) el58 rfl (Nat.le_of_ble_eq_true rfl) rfl ⟨rfl, rfl⟩ (fun v34 => ⟨⟨[_], (.same .refl), (l2 e28 e32)⟩, ?_⟩))
 refine GDr.shareR 0 rfl (fun S36 e37 q38 => ?_)
 refine g1 7 ?_
 refine n1 rfl (cl fb138 (node_joined_ok 17 ([t5, t10] : List Str) q38 wt20) (fun v39 S40 e41 z42 => ⟨⟨[_], (.same .refl), (l2 e28 (l2 e32 (l2 e37 e41)))⟩, ?_⟩))
 have q43 := q38.up e41
 obtain rfl := z42
 refine tn 8 rfl hQ (fun _ _ _ => Y.assign rfl) ?_
 refine dn ?_
 refine GX.then hK4 ?_
 refine G.ret ?_
 obtain rfl := Option.some.inj h
 exact hret _ _ _ _ 2 (l2 e28 (l2 e32 (l2 e37 e41))) (.cons (.tmp rfl) .nil) rfl rfl

/- (chirograph/node.Inner).Item -/
def node_Inner_Item  (a0 : Inner) : Option Item :=
 ((bits_Common a0.l.bits a0.r.bits).bind fun t8 => ((bits_Cut a0.l.bits t8).bind fun t13 => ((node_InnerBytes a0).bind fun t49 => ((sha_Sum t49).bind fun t54 => some (⟨t13.len, t13.bits, t54, (max a0.l.at_ a0.r.at_)⟩ : Item)))))

theorem node_Inner_Item_ok {S : Hp} (a0 : Inner) {r : Item} (h : node_Inner_Item a0 = some r) : Fn Tryz.prog 46 [aggV [sV (.int .i64 a0.l.len), sL a0.l.bits, sL a0.l.sum, sV (.int .i64 a0.l.at_), sV (.int .i64 a0.r.len), sL a0.r.bits, sL a0.r.sum, sV (.int .i64 a0.r.at_)]] S (fun v S' => v = aggV [sV (.int .i64 r.len), sL r.bits, sL r.sum, sV (.int .i64 r.at_)]) := by
 unfold node_Inner_Item at h
 refine fo [.cell 2 29] 30 Tryz.func46 Tryz.ntmps46 (fun o F Q hQ hN hret => ?_)
 refine sr (fun _ hK1 => ?_)
 refine st (OS.boxA (by decide) rfl (fun ad2 => ?_))
 refine st (OS.alloc _ (by decide) zero29 (fun ad4 => ?_))
 refine nt hK1 ?_
 refine G.seq (fun _ hK6 => ?_)
 obtain ⟨t8, wt8, h⟩ := bind_some' h
 obtain ⟨t13, wt13, h⟩ := bind_some' h
 refine G.cut (fun E₀ S₀ L₀ => ∃ (ad18 : Nat), S.le S₀ ∧ E₀ = [(3, .pointer (some ⟨ad18, 0, none⟩)), (2, .pointer (some ⟨ad4, 0, none⟩)), (1, .pointer (some ⟨ad2, 0, none⟩))] ∧ Blk ad18 [sV (.int .i64 t13.len), sL t13.bits] :: Blk ad4 [sV (.int .i64 0), sL zL, sL zL, sV (.int .i64 0)] :: Blk ad2 [sV (.int .i64 a0.l.len), sL a0.l.bits, sL a0.l.sum, sV (.int .i64 a0.l.at_), sV (.int .i64 a0.r.len), sL a0.r.bits, sL a0.r.sum, sV (.int .i64 a0.r.at_)] :: F = L₀) (fun K7 hK7 => ?_) ?_
 ·refine G.drawN 16 mixed (by kernel_rfl) ?_
  refine tn 0 rfl hQ (fun _ _ _ => Y.fieldAddr 0 rfl fld31_0 rfl) ?_
  refine tn 1 rfl hQ (fun _ _ _ => Y.fieldAddr 0 rfl fld29_0 rfl) ?_
  refine tn 2 rfl hQ (fun _ _ _ => Y.fieldAddr 1 rfl fld27_1 rfl) ?_
  refine tn 3 rfl hQ (fun S₀ X₀ e₀ => Y.loadB (X₀.length + 1)  1 1 [sL a0.l.bits] rfl (Lk rfl) rfl rfl row23 (by kernel_rfl)) ?_
  refine tn 4 rfl hQ (fun _ _ _ => Y.fieldAddr 0 rfl fld31_0 rfl) ?_
  refine tn 5 rfl hQ (fun _ _ _ => Y.fieldAddr 0 rfl fld29_0 rfl) ?_
  refine tn 6 rfl hQ (fun _ _ _ => Y.fieldAddr 1 rfl fld27_1 rfl) ?_
  refine tn 7 rfl hQ (fun S₀ X₀ e₀ => Y.loadB (X₀.length + 1)  1 1 [sL a0.l.bits] rfl (Lk rfl) rfl rfl row23 (by kernel_rfl)) ?_
  refine tn 8 rfl hQ (fun _ _ _ => Y.fieldAddr 66 rfl fld31_1 rfl) ?_
  refine tn 9 rfl hQ (fun _ _ _ => Y.fieldAddr 66 rfl fld29_0 rfl) ?_
  refine tn 10 rfl hQ (fun _ _ _ => Y.fieldAddr 67 rfl fld27_1 rfl) ?_
  refine tn 11 rfl hQ (fun S₀ X₀ e₀ => Y.loadB (X₀.length + 1)  5 1 [sL a0.r.bits] rfl (Lk rfl) rfl rfl row23 (by kernel_rfl)) ?_
  refine GDr.any [12, 14] (by kernel_rfl) rfl (AllR.two ?_ ?_)
  ·refine n1 rfl (cl fb124 (bits_Common_ok a0.l.bits a0.r.bits wt8) (fun v20 S21 e22 z23 => ⟨⟨[], .refl, e22⟩, ?_⟩))
   obtain rfl := z23
   refine GDr.any [13, 14] (by kernel_rfl) rfl (AllR.two ?_ ?_)
   ·refine n1 rfl (cl fb126 (bits_Cut_ok a0.l.bits t8 wt13) (fun v24 S25 e26 z27 => ⟨⟨[], .refl, (l2 e22 e26)⟩, ?_⟩))
    obtain rfl := z27
    refine g1 14 ?_
    refine n1 rfl (OS.alloc _ (by decide) zero27 (fun ad28 => ⟨⟨[_], (.same .refl), (l2 e22 e26)⟩, ?_⟩))
    refine g1 15 ?_
    refine n1 rfl (OS.store 0 0 2 [sV (.int .i64 t13.len), sL t13.bits] (r := [sV (.int .i64 t13.len), sL t13.bits]) rfl rfl (aggV_cells _) (oI (oL oN)) rfl rfl size27 (by kernel_rfl) (by kernel_rfl) (by kernel_rfl) ⟨⟨[_], (.same .refl), (l2 e22 e26)⟩, ?_⟩)
    refine dn ?_
    refine GX.keep [3, 2, 1] rfl ?_
    exact hK7 _ _ _ ⟨ad28, (l2 e22 e26), rfl, rfl⟩
   refine n1 rfl (OS.alloc _ (by decide) zero27 (fun ad30 => ⟨⟨[_], (.same .refl), e22⟩, ?_⟩))
   refine g1 13 ?_
   refine n1 rfl (cl fb126 (bits_Cut_ok a0.l.bits t8 wt13) (fun v32 S33 e34 z35 => ⟨⟨[_], (.same .refl), (l2 e22 e34)⟩, ?_⟩))
   obtain rfl := z35
   refine g1 15 ?_
   refine n1 rfl (OS.store 0 0 2 [sV (.int .i64 t13.len), sL t13.bits] (r := [sV (.int .i64 t13.len), sL t13.bits]) rfl rfl (aggV_cells _) (oI (oL oN)) rfl rfl size27 (by kernel_rfl) (by kernel_rfl) (by kernel_rfl) ⟨⟨[_], (.same .refl), (l2 e22 e34)⟩, ?_⟩)
   refine dn ?_
   refine GX.keep [3, 2, 1] rfl ?_
   exact hK7 _ _ _ ⟨ad30, (l2 e22 e34), rfl, rfl⟩
  refine n1 rfl (OS.alloc _ (by decide) zero27 (fun ad36 => ⟨⟨[_], (.same .refl), l0⟩, ?_⟩))
  refine g1 12 ?_
  refine n1 rfl (cl fb124 (bits_Common_ok a0.l.bits a0.r.bits wt8) (fun v38 S39 e40 z41 => ⟨⟨[_], (.same .refl), e40⟩, ?_⟩))
  obtain rfl := z41
  refine g1 13 ?_
  refine n1 rfl (cl fb126 (bits_Cut_ok a0.l.bits t8 wt13) (fun v42 S43 e44 z45 => ⟨⟨[_], (.same .refl), (l2 e40 e44)⟩, ?_⟩))
  obtain rfl := z45
  refine g1 15 ?_
  refine n1 rfl (OS.store 0 0 2 [sV (.int .i64 t13.len), sL t13.bits] (r := [sV (.int .i64 t13.len), sL t13.bits]) rfl rfl (aggV_cells _) (oI (oL oN)) rfl rfl size27 (by kernel_rfl) (by kernel_rfl) (by kernel_rfl) ⟨⟨[_], (.same .refl), (l2 e40 e44)⟩, ?_⟩)
  refine dn ?_
  refine GX.keep [3, 2, 1] rfl ?_
  exact hK7 _ _ _ ⟨ad36, (l2 e40 e44), rfl, rfl⟩
 rintro _ S46 _ ⟨ad18, e47, rfl, rfl⟩
 refine GX.then hK6 ?_
 refine G.seq (fun _ hK48 => ?_)
 obtain ⟨t49, wt49, h⟩ := bind_some' h
 obtain ⟨t54, wt54, h⟩ := bind_some' h
 refine G.drawS 12 _ (Blk ad18 [sV (.int .i64 t13.len), sL t13.bits] :: (fun _ => True) :: Blk ad2 [sV (.int .i64 a0.l.len), sL a0.l.bits, sL a0.l.sum, sV (.int .i64 a0.l.at_), sV (.int .i64 a0.r.len), sL a0.r.bits, sL a0.r.sum, sV (.int .i64 a0.r.at_)] :: F) mixed .refl (by kernel_rfl) ?_
 refine tx 0 rfl (.same (.lose .refl)) hQ (fun S₀ X₀ e₀ => Y.loadB (X₀.length + 0)  0 2 [sV (.int .i64 t13.len), sL t13.bits] rfl (Lk rfl) rfl rfl row27 (by kernel_rfl)) ?_
 refine tx 1 rfl (.same (.lose .refl)) hQ (fun S₀ X₀ e₀ => Y.loadB (X₀.length + 2)  0 8 [sV (.int .i64 a0.l.len), sL a0.l.bits, sL a0.l.sum, sV (.int .i64 a0.l.at_), sV (.int .i64 a0.r.len), sL a0.r.bits, sL a0.r.sum, sV (.int .i64 a0.r.at_)] rfl (Lk rfl) rfl rfl row31 (by kernel_rfl)) ?_
 refine tx 4 rfl (.same (.lose .refl)) hQ (fun _ _ _ => Y.fieldAddr 0 rfl fld31_0 rfl) ?_
 refine tx 5 rfl (.same (.lose .refl)) hQ (fun _ _ _ => Y.fieldAddr 65 rfl fld29_2 rfl) ?_
 refine tx 6 rfl (.same (.lose .refl)) hQ (fun S₀ X₀ e₀ => Y.loadV (X₀.length + 2)  3 _ rfl (Lk rfl) rfl rfl one3) ?_
 refine tx 7 rfl (.same (.lose .refl)) hQ (fun _ _ _ => Y.fieldAddr 66 rfl fld31_1 rfl) ?_
 refine tx 8 rfl (.same (.lose .refl)) hQ (fun _ _ _ => Y.fieldAddr 131 rfl fld29_2 rfl) ?_
 refine tx 9 rfl (.same (.lose .refl)) hQ (fun S₀ X₀ e₀ => Y.loadV (X₀.length + 2)  7 _ rfl (Lk rfl) rfl rfl one3) ?_
 refine tx 10 rfl (.same (.lose .refl)) hQ (fun _ _ _ => Y.maxI rfl rfl) ?_
 refine g1 2 ?_
 refine n1 rfl (cl fb65 (node_InnerBytes_ok a0 wt49) (fun v59 S60 e61 z62 => ⟨⟨[], .refl, e61⟩, ?_⟩))
 obtain rfl := z62
 refine g1 3 ?_
 refine n1 rfl (cl fb66 (sha_Sum_ok t49 wt54) (fun v63 S64 e65 z66 => ⟨⟨[], .refl, (l2 e61 e65)⟩, ?_⟩))
 obtain rfl := z66
 refine tx 11 rfl (.same (.lose .refl)) hQ (fun _ _ _ => Y.buildE _ [sV (.int .i64 t13.len), sL t13.bits, sL t54, sV (.int .i64 (max a0.l.at_ a0.r.at_))] strt29 zero29 rfl (.cons 0 2 [sV (.int .i64 t13.len), sL t13.bits] rfl (aggV_cells _) rfl rfl rfl (.cons 2 1 [sL t54] rfl (aggV_cells _) rfl rfl rfl (.cons 3 1 [sV (.int .i64 (max a0.l.at_ a0.r.at_))] rfl rfl rfl rfl rfl .nil)))) ?_
 refine g1 12 ?_
 refine n2 rfl (OS.store 1 0 4 [sV (.int .i64 t13.len), sL t13.bits, sL t54, sV (.int .i64 (max a0.l.at_ a0.r.at_))] (r := [sV (.int .i64 t13.len), sL t13.bits, sL t54, sV (.int .i64 (max a0.l.at_ a0.r.at_))]) rfl rfl (aggV_cells _) (oI (oL (oL (oI oN)))) rfl rfl size29 (by kernel_rfl) (by kernel_rfl) (by kernel_rfl) ⟨⟨[], (.same (.lose .refl)), (l2 e61 e65)⟩, ?_⟩)
 refine dn ?_
 refine GX.then hK48 ?_
 refine G.ret ?_
 obtain rfl := Option.some.inj h
 exact hret _ _ _ _ 3 (l2 e47 (l2 e61 e65)) (.cons (.row (k := 1) rfl rfl row29 (by kernel_rfl)) .nil) rfl rfl

/- chirograph/node.Good -/
def node_Good  (a0 : Item) : Option Bool :=
 ((bits_Good (⟨a0.len, a0.bits⟩ : Pfx)).bind fun t5 => ((if t5 = true then some (decide ((0 : Int) ≤ a0.at_)) else some false).bind fun b10 => ((if b10 = true then some (decide (a0.at_ ≤ (1073741824 : Int))) else some false).bind fun b15 => some b15)))

theorem node_Good_ok {S : Hp} (a0 : Item) {r : Bool} (h : node_Good a0 = some r) : Fn Tryz.prog 94 [aggV [sV (.int .i64 a0.len), sL a0.bits, sL a0.sum, sV (.int .i64 a0.at_)]] S (fun v S' => v = .bool r) := by
 unfold node_Good at h
 refine fo [.tmp 2] 16 Tryz.func94 Tryz.ntmps94 (fun o F Q hQ hN hret => ?_)
 refine sr (fun _ hK1 => ?_)
 refine st (OS.boxA (by decide) rfl (fun ad2 => ?_))
 refine an ?_
 refine nt hK1 ?_
 refine sr (fun _ hK4 => ?_)
 refine vl (Y.fieldAddr 0 rfl fld29_0 rfl) ?_
 refine lb 0 0 2 [sV (.int .i64 a0.len), sL a0.bits] row27 ?_
 obtain ⟨t5, wt5, h⟩ := bind_some' h
 refine st (cl fb132 (bits_Good_ok (⟨a0.len, a0.bits⟩ : Pfx) wt5) (fun v6 S7 e8 z9 => ?_))
 obtain rfl := z9
 refine mv ?_
 obtain ⟨b10, wb10, h⟩ := bind_some' h
 refine GO.joinB 4 10 (b10 = ·) (fun K12 hK12 => ?_) ?_
 ·replace h := wb10
  rcases Bool.eq_false_or_eq_true t5 with c11 | c11
  ·replace h := ite_t c11 h
   refine gv 6 c11 (Y.fieldAddr 65 rfl fld29_2 rfl) ?_
   refine gv 6 c11 (Y.loadV 0  3 _ rfl rfl rfl rfl one3) ?_
   refine gv 6 c11 (Y.geI rfl rfl) ?_
   refine vl (Y.pickT _ c11 rfl rfl) ?_
   refine GO.nil ?_
   refine p2 (p2 (p2 ?_))
   exact hK12 _ _ l0 (Option.some.inj h).symm
  replace h := ite_f c11 h
  refine gf 6 c11 ?_
  refine gf 6 c11 ?_
  refine gf 6 c11 ?_
  refine vl (Y.pickF _ c11 rfl rfl) ?_
  refine GO.nil ?_
  refine p2 (p2 (p2 ?_))
  exact hK12 _ _ l0 (Option.some.inj h).symm
 rintro _ S13 e14 rfl
 refine mv ?_
 obtain ⟨b15, wb15, h⟩ := bind_some' h
 refine GO.joinB 4 15 (b15 = ·) (fun K17 hK17 => ?_) ?_
 ·replace h := wb15
  rcases Bool.eq_false_or_eq_true b10 with c16 | c16
  ·replace h := ite_t c16 h
   refine gv 11 c16 (Y.fieldAddr 65 rfl fld29_2 rfl) ?_
   refine gv 11 c16 (Y.loadV 0  3 _ rfl rfl rfl rfl one3) ?_
   refine gv 11 c16 (Y.leI rfl rfl) ?_
   refine vl (Y.pickT _ c16 rfl rfl) ?_
   refine GO.nil ?_
   refine p2 (p2 (p2 ?_))
   exact hK17 _ _ l0 (Option.some.inj h).symm
  replace h := ite_f c16 h
  refine gf 11 c16 ?_
  refine gf 11 c16 ?_
  refine gf 11 c16 ?_
  refine vl (Y.pickF _ c16 rfl rfl) ?_
  refine GO.nil ?_
  refine p2 (p2 (p2 ?_))
  exact hK17 _ _ l0 (Option.some.inj h).symm
 rintro _ S18 e19 rfl
 refine an ?_
 refine nt hK4 ?_
 refine G.ret ?_
 obtain rfl := Option.some.inj h
 exact hret _ _ _ _ 1 (l2 e8 (l2 e14 e19)) (.cons (.tmp rfl) .nil) rfl rfl

/- chirograph/node.Check -/
def node_Check  (a0 : Nd) : Option Int :=
 (match a0 with | .leaf x5 => ((if (decide (x5.at_ < (0 : Int))) = true then some true else some (decide ((1073741824 : Int) < x5.at_))).bind fun b13 => (if b13 = true then some (1 : Int) else some (0 : Int))) | .inner x6 => ((node_Good x6.l).bind fun t29 => ((if (!t29) = true then some true else ((node_Good x6.r).bind fun t37 => some (!t37))).bind fun b34 => (if b34 = true then some (1 : Int) else ((bits_Common x6.l.bits x6.r.bits).bind fun t63 => ((if (decide (x6.l.len ≤ t63)) = true then some true else some (decide (x6.r.len ≤ t63))).bind fun b70 => ((if b70 = true then some true else ((bits_Order x6.l.bits x6.r.bits).bind fun t78 => some (decide ((0 : Int) < t78)))).bind fun b75 => (if b75 = true then some (3 : Int) else some (0 : Int)))))))) | .nil => some (3 : Int))

theorem node_Check_ok {S : Hp} (a0 : Nd) {r : Int} (h : node_Check a0 = some r) : Fn Tryz.prog 52 [ndV a0] S (fun v S' => v = .int .i64 r) := by
 unfold node_Check at h
 refine fo [.tmp 2] 62 Tryz.func52 Tryz.ntmps52 (fun o F Q hQ hN hret => ?_)
 refine sr (fun _ hK1 => ?_)
 refine an ?_
 refine nt hK1 ?_
 refine G.seq (fun _ hK2 => ?_)
 refine sr (fun _ hK3 => ?_)
 refine mv ?_
 refine nt hK3 ?_
 refine G.block ?_
 refine sr (fun _ hK4 => ?_)
 generalize a0 = n₀ at h ⊢
 rcases n₀ with x5 | x6 | _
 ·try dsimp only at h
  refine vl (Y.taYes rfl stt25) ?_
  refine vl (Y.extract _ rfl rfl) ?_
  refine vl (Y.extract _ rfl rfl) ?_
  refine nt hK4 ?_
  refine G.cond true rfl (fun _ => ?_) (fun c7 => nomatch c7)
  refine sr (fun _ hK8 => ?_)
  refine st (OS.alloc _ (by decide) zero25 (fun ad9 => ?_))
  refine sf 0 3 [sL x5.label, sL x5.value, sV (.int .i64 x5.at_)] (aggV_cells _) (oL (oL (oI oN))) size25 ?_
  refine nt hK8 ?_
  refine G.seq (fun _ hK11 => ?_)
  refine sr (fun _ hK12 => ?_)
  refine vl (Y.fieldAddr 64 rfl fld25_2 rfl) ?_
  refine lv 0 2 one3 ?_
  refine vl (Y.ltI rfl rfl) ?_
  refine mv ?_
  obtain ⟨b13, wb13, h⟩ := bind_some' h
  refine GO.joinB 4 19 (b13 = ·) (fun K15 hK15 => ?_) ?_
  ·replace h := wb13
   rcases Bool.eq_false_or_eq_true (decide (x5.at_ < (0 : Int))) with c14 | c14
   ·replace h := ite_t c14 h
    refine gf 15 c14 ?_
    refine gf 15 c14 ?_
    refine gf 15 c14 ?_
    refine vl (Y.pickT _ c14 rfl rfl) ?_
    refine GO.nil ?_
    refine p2 (p2 (p2 ?_))
    exact hK15 _ _ l0 (Option.some.inj h).symm
   replace h := ite_f c14 h
   refine gv 15 c14 (Y.fieldAddr 64 rfl fld25_2 rfl) ?_
   refine gv 15 c14 (Y.loadV 0  2 _ rfl rfl rfl rfl one3) ?_
   refine gv 15 c14 (Y.gtI rfl rfl) ?_
   refine vl (Y.pickF _ c14 rfl rfl) ?_
   refine GO.nil ?_
   refine p2 (p2 (p2 ?_))
   exact hK15 _ _ l0 (Option.some.inj h).symm
  rintro _ S16 e17 rfl
  refine nt hK12 ?_
  refine G.cond _ rfl (fun c18 => ?_) (fun c18 => ?_)
  ·replace h := ite_t c18 h
   refine sr (fun _ hK19 => ?_)
   refine an ?_
   refine nt hK19 ?_
   refine G.ret ?_
   obtain rfl := Option.some.inj h
   exact hret _ _ _ _ 1 e17 (.cons (.tmp rfl) .nil) rfl rfl
  replace h := ite_f c18 h
  refine sk hK11 ?_
  refine sr (fun _ hK20 => ?_)
  refine an ?_
  refine nt hK20 ?_
  refine G.ret ?_
  obtain rfl := Option.some.inj h
  exact hret _ _ _ _ 1 e17 (.cons (.tmp rfl) .nil) rfl rfl
 ·try dsimp only at h
  refine vl (Y.taNo rfl stt25 zero25 rfl _ zv25) ?_
  refine vl (Y.extract _ rfl rfl) ?_
  refine vl (Y.extract _ rfl rfl) ?_
  refine nt hK4 ?_
  refine G.cond false rfl (fun c21 => nomatch c21) (fun _ => ?_)
  refine sr (fun _ hK22 => ?_)
  refine vl (Y.taYes rfl stt31) ?_
  refine vl (Y.extract _ rfl rfl) ?_
  refine vl (Y.extract _ rfl rfl) ?_
  refine nt hK22 ?_
  refine G.cond true rfl (fun _ => ?_) (fun c23 => nomatch c23)
  refine sr (fun _ hK24 => ?_)
  refine st (OS.alloc _ (by decide) zero31 (fun ad25 => ?_))
  refine sf 0 8 [sV (.int .i64 x6.l.len), sL x6.l.bits, sL x6.l.sum, sV (.int .i64 x6.l.at_), sV (.int .i64 x6.r.len), sL x6.r.bits, sL x6.r.sum, sV (.int .i64 x6.r.at_)] (aggV_cells _) (oI (oL (oL (oI (oI (oL (oL (oI oN)))))))) size31 ?_
  refine nt hK24 ?_
  refine G.seq (fun _ hK27 => ?_)
  refine sr (fun _ hK28 => ?_)
  refine vl (Y.fieldAddr 0 rfl fld31_0 rfl) ?_
  refine lb 0 0 4 [sV (.int .i64 x6.l.len), sL x6.l.bits, sL x6.l.sum, sV (.int .i64 x6.l.at_)] row29 ?_
  obtain ⟨t29, wt29, h⟩ := bind_some' h
  refine st (cl fb94 (node_Good_ok x6.l wt29) (fun v30 S31 e32 z33 => ?_))
  obtain rfl := z33
  refine vl (Y.not rfl) ?_
  refine mv ?_
  obtain ⟨b34, wb34, h⟩ := bind_some' h
  refine GO.joinB 5 32 (b34 = ·) (fun K36 hK36 => ?_) ?_
  ·replace h := wb34
   rcases Bool.eq_false_or_eq_true (!t29) with c35 | c35
   ·replace h := ite_t c35 h
    refine gf 27 c35 ?_
    refine gf 27 c35 ?_
    refine gf 27 c35 ?_
    refine gf 27 c35 ?_
    refine vl (Y.pickT _ c35 rfl rfl) ?_
    refine GO.nil ?_
    refine p2 (p2 (p2 (p2 ?_)))
    exact hK36 _ _ l0 (Option.some.inj h).symm
   replace h := ite_f c35 h
   refine gv 27 c35 (Y.fieldAddr 66 rfl fld31_1 rfl) ?_
   refine gv 27 c35 (Y.loadB 0  4 4 [sV (.int .i64 x6.r.len), sL x6.r.bits, sL x6.r.sum, sV (.int .i64 x6.r.at_)] rfl rfl rfl rfl row29 (by kernel_rfl)) ?_
   obtain ⟨t37, wt37, h⟩ := bind_some' h
   refine GO.onS 27 rfl (by decide) rfl c35 (cl fb94 (node_Good_ok x6.r wt37) (fun v38 S39 e40 z41 => ?_))
   obtain rfl := z41
   refine gv 27 c35 (Y.not rfl) ?_
   refine vl (Y.pickF _ c35 rfl rfl) ?_
   refine GO.nil ?_
   refine p2 (p2 (p2 (p2 ?_)))
   exact hK36 _ _ e40 (Option.some.inj h).symm
  rintro _ S42 e43 rfl
  refine nt hK28 ?_
  refine G.cond _ rfl (fun c44 => ?_) (fun c44 => ?_)
  ·replace h := ite_t c44 h
   refine sr (fun _ hK45 => ?_)
   refine an ?_
   refine nt hK45 ?_
   refine G.ret ?_
   obtain rfl := Option.some.inj h
   exact hret _ _ _ _ 1 (l2 e32 e43) (.cons (.tmp rfl) .nil) rfl rfl
  replace h := ite_f c44 h
  refine sk hK27 ?_
  refine G.seq (fun _ hK46 => ?_)
  refine G.cut (fun E₀ S₀ L₀ => ∃ (ad50 : Nat) (ad48 : Nat), S42.le S₀ ∧ E₀ = [(6, .pointer (some ⟨ad50, 0, none⟩)), (5, .pointer (some ⟨ad48, 0, none⟩))] ∧ Blk ad50 [sV (.int .i64 x6.r.len), sL x6.r.bits] :: Blk ad48 [sV (.int .i64 x6.l.len), sL x6.l.bits] :: Blk ad25 [sV (.int .i64 x6.l.len), sL x6.l.bits, sL x6.l.sum, sV (.int .i64 x6.l.at_), sV (.int .i64 x6.r.len), sL x6.r.bits, sL x6.r.sum, sV (.int .i64 x6.r.at_)] :: F = L₀) (fun K47 hK47 => ?_) ?_
  ·refine G.drawN 10 mixed (by kernel_rfl) ?_
   refine tn 0 rfl hQ (fun _ _ _ => Y.fieldAddr 0 rfl fld31_0 rfl) ?_
   refine tn 1 rfl hQ (fun _ _ _ => Y.fieldAddr 0 rfl fld29_0 rfl) ?_
   refine tn 2 rfl hQ (fun S₀ X₀ e₀ => Y.loadB (X₀.length + 0)  0 2 [sV (.int .i64 x6.l.len), sL x6.l.bits] rfl (Lk rfl) rfl rfl row27 (by kernel_rfl)) ?_
   refine tn 3 rfl hQ (fun _ _ _ => Y.fieldAddr 66 rfl fld31_1 rfl) ?_
   refine tn 4 rfl hQ (fun _ _ _ => Y.fieldAddr 66 rfl fld29_0 rfl) ?_
   refine tn 5 rfl hQ (fun S₀ X₀ e₀ => Y.loadB (X₀.length + 0)  4 2 [sV (.int .i64 x6.r.len), sL x6.r.bits] rfl (Lk rfl) rfl rfl row27 (by kernel_rfl)) ?_
   refine GDr.any [6, 7] (by kernel_rfl) rfl (AllR.two ?_ ?_)
   ·refine n1 rfl (OS.alloc _ (by decide) zero27 (fun ad52 => ⟨⟨[_], (.same .refl), l0⟩, ?_⟩))
    refine g1 7 ?_
    refine n1 rfl (OS.alloc _ (by decide) zero27 (fun ad54 => ⟨⟨[_, _], (.same (.same .refl)), l0⟩, ?_⟩))
    refine g1 8 ?_
    refine n1 rfl (OS.store 1 0 2 [sV (.int .i64 x6.l.len), sL x6.l.bits] (r := [sV (.int .i64 x6.l.len), sL x6.l.bits]) rfl rfl (aggV_cells _) (oI (oL oN)) rfl rfl size27 (by kernel_rfl) (by kernel_rfl) (by kernel_rfl) ⟨⟨[_, _], (.same (.same .refl)), l0⟩, ?_⟩)
    refine g1 9 ?_
    refine n1 rfl (OS.store 0 0 2 [sV (.int .i64 x6.r.len), sL x6.r.bits] (r := [sV (.int .i64 x6.r.len), sL x6.r.bits]) rfl rfl (aggV_cells _) (oI (oL oN)) rfl rfl size27 (by kernel_rfl) (by kernel_rfl) (by kernel_rfl) ⟨⟨[_, _], (.same (.same .refl)), l0⟩, ?_⟩)
    refine dn ?_
    refine GX.keep [6, 5] rfl ?_
    exact hK47 _ _ _ ⟨ad54, ad52, l0, rfl, rfl⟩
   refine n1 rfl (OS.alloc _ (by decide) zero27 (fun ad56 => ⟨⟨[_], (.same .refl), l0⟩, ?_⟩))
   refine g1 6 ?_
   refine n1 rfl (OS.alloc _ (by decide) zero27 (fun ad58 => ⟨⟨[_, _], (.same (.same .refl)), l0⟩, ?_⟩))
   refine g1 8 ?_
   refine n1 rfl (OS.store 0 0 2 [sV (.int .i64 x6.l.len), sL x6.l.bits] (r := [sV (.int .i64 x6.l.len), sL x6.l.bits]) rfl rfl (aggV_cells _) (oI (oL oN)) rfl rfl size27 (by kernel_rfl) (by kernel_rfl) (by kernel_rfl) ⟨⟨[_, _], (.same (.same .refl)), l0⟩, ?_⟩)
   refine g1 9 ?_
   refine n1 rfl (OS.store 1 0 2 [sV (.int .i64 x6.r.len), sL x6.r.bits] (r := [sV (.int .i64 x6.r.len), sL x6.r.bits]) rfl rfl (aggV_cells _) (oI (oL oN)) rfl rfl size27 (by kernel_rfl) (by kernel_rfl) (by kernel_rfl) ⟨⟨[_, _], (.same (.same .refl)), l0⟩, ?_⟩)
   refine dn ?_
   refine GX.keep [6, 5] rfl ?_
   refine GX.perm (.trans (.swap _ _ _) (.cons _ (.refl _))) ?_
   exact hK47 _ _ _ ⟨ad56, ad58, l0, rfl, rfl⟩
  rintro _ S60 _ ⟨ad50, ad48, e61, rfl, rfl⟩
  refine GX.then hK46 ?_
  refine sr (fun _ hK62 => ?_)
  refine vl (Y.fieldAddr 1 rfl fld27_1 rfl) ?_
  refine lb 1 1 1 [sL x6.l.bits] row23 ?_
  refine vl (Y.fieldAddr 1 rfl fld27_1 rfl) ?_
  refine lb 0 1 1 [sL x6.r.bits] row23 ?_
  obtain ⟨t63, wt63, h⟩ := bind_some' h
  refine st (cl fb124 (bits_Common_ok x6.l.bits x6.r.bits wt63) (fun v64 S65 e66 z67 => ?_))
  obtain rfl := z67
  refine an ?_
  refine nt hK62 ?_
  refine G.seq (fun _ hK68 => ?_)
  refine sr (fun _ hK69 => ?_)
  refine mv ?_
  refine vl (Y.fieldAddr 0 rfl fld27_0 rfl) ?_
  refine lv 1 0 one3 ?_
  refine vl (Y.geI rfl rfl) ?_
  refine mv ?_
  obtain ⟨b70, wb70, h⟩ := bind_some' h
  refine GO.joinB 5 53 (b70 = ·) (fun K72 hK72 => ?_) ?_
  ·replace h := wb70
   rcases Bool.eq_false_or_eq_true (decide (x6.l.len ≤ t63)) with c71 | c71
   ·replace h := ite_t c71 h
    refine gf 48 c71 ?_
    refine gf 48 c71 ?_
    refine gf 48 c71 ?_
    refine gf 48 c71 ?_
    refine vl (Y.pickT _ c71 rfl rfl) ?_
    refine GO.nil ?_
    refine p2 (p2 (p2 (p2 ?_)))
    exact hK72 _ _ l0 (Option.some.inj h).symm
   replace h := ite_f c71 h
   refine gv 48 c71 (Y.move rfl) ?_
   refine gv 48 c71 (Y.fieldAddr 0 rfl fld27_0 rfl) ?_
   refine gv 48 c71 (Y.loadV 0  0 _ rfl rfl rfl rfl one3) ?_
   refine gv 48 c71 (Y.geI rfl rfl) ?_
   refine vl (Y.pickF _ c71 rfl rfl) ?_
   refine GO.nil ?_
   refine p2 (p2 (p2 (p2 ?_)))
   exact hK72 _ _ l0 (Option.some.inj h).symm
  rintro _ S73 e74 rfl
  refine mv ?_
  obtain ⟨b75, wb75, h⟩ := bind_some' h
  refine GO.joinB 7 61 (b75 = ·) (fun K77 hK77 => ?_) ?_
  ·replace h := wb75
   rcases Bool.eq_false_or_eq_true b70 with c76 | c76
   ·replace h := ite_t c76 h
    refine gf 54 c76 ?_
    refine gf 54 c76 ?_
    refine gf 54 c76 ?_
    refine gf 54 c76 ?_
    refine gf 54 c76 ?_
    refine gf 54 c76 ?_
    refine vl (Y.pickT _ c76 rfl rfl) ?_
    refine GO.nil ?_
    refine p2 (p2 (p2 (p2 (p2 (p2 ?_)))))
    exact hK77 _ _ l0 (Option.some.inj h).symm
   replace h := ite_f c76 h
   refine gv 54 c76 (Y.fieldAddr 1 rfl fld27_1 rfl) ?_
   refine gv 54 c76 (Y.loadB 1  1 1 [sL x6.l.bits] rfl rfl rfl rfl row23 (by kernel_rfl)) ?_
   refine gv 54 c76 (Y.fieldAddr 1 rfl fld27_1 rfl) ?_
   refine gv 54 c76 (Y.loadB 0  1 1 [sL x6.r.bits] rfl rfl rfl rfl row23 (by kernel_rfl)) ?_
   obtain ⟨t78, wt78, h⟩ := bind_some' h
   refine GO.onS 54 rfl (by decide) rfl c76 (cl fb121 (bits_Order_ok x6.l.bits x6.r.bits wt78) (fun v79 S80 e81 z82 => ?_))
   obtain rfl := z82
   refine gv 54 c76 (Y.gtI rfl rfl) ?_
   refine vl (Y.pickF _ c76 rfl rfl) ?_
   refine GO.nil ?_
   refine p2 (p2 (p2 (p2 (p2 (p2 ?_)))))
   exact hK77 _ _ e81 (Option.some.inj h).symm
  rintro _ S83 e84 rfl
  refine nt hK69 ?_
  refine G.cond _ rfl (fun c85 => ?_) (fun c85 => ?_)
  ·replace h := ite_t c85 h
   refine sr (fun _ hK86 => ?_)
   refine an ?_
   refine nt hK86 ?_
   refine G.ret ?_
   obtain rfl := Option.some.inj h
   exact hret _ _ _ _ 3 (l2 e32 (l2 e43 (l2 e61 (l2 e66 (l2 e74 e84))))) (.cons (.tmp rfl) .nil) rfl rfl
  replace h := ite_f c85 h
  refine sk hK68 ?_
  refine sr (fun _ hK87 => ?_)
  refine an ?_
  refine nt hK87 ?_
  refine G.ret ?_
  obtain rfl := Option.some.inj h
  exact hret _ _ _ _ 3 (l2 e32 (l2 e43 (l2 e61 (l2 e66 (l2 e74 e84))))) (.cons (.tmp rfl) .nil) rfl rfl
 try dsimp only at h
 refine vl (Y.taNil (segs := []) rfl stt25 _ zv25) ?_
 refine vl (Y.extract _ rfl rfl) ?_
 refine vl (Y.extract _ rfl rfl) ?_
 refine nt hK4 ?_
 refine G.cond false rfl (fun c88 => nomatch c88) (fun _ => ?_)
 refine sr (fun _ hK89 => ?_)
 refine vl (Y.taNil (segs := []) rfl stt31 _ zv31) ?_
 refine vl (Y.extract _ rfl rfl) ?_
 refine vl (Y.extract _ rfl rfl) ?_
 refine nt hK89 ?_
 refine G.cond false rfl (fun c90 => nomatch c90) (fun _ => ?_)
 refine G.skip ?_
 refine GX.normal_block ?_
 refine GX.then hK2 ?_
 refine sr (fun _ hK91 => ?_)
 refine an ?_
 refine nt hK91 ?_
 refine G.ret ?_
 obtain rfl := Option.some.inj h
 exact hret _ _ _ _ 0 l0 (.cons (.tmp rfl) .nil) rfl rfl

/- chirograph/node.LeafBytes -/
def node_LeafBytes  (a0 : Leaf) : Option Str :=
 ((node_number a0.at_).bind fun t5 => ((node_joined 16 ([a0.label.toList, a0.value.toList, t5] : List Str)).bind fun t15 => some t15))

theorem node_LeafBytes_ok {S : Hp} (a0 : Leaf) {r : Str} (h : node_LeafBytes a0 = some r) : Fn Tryz.prog 64 [aggV [sL a0.label, sL a0.value, sV (.int .i64 a0.at_)]] S (fun v S' => v = strV r) := by
 unfold node_LeafBytes at h
 refine fo [.tmp 2] 14 Tryz.func64 Tryz.ntmps64 (fun o F Q hQ hN hret => ?_)
 refine sr (fun _ hK1 => ?_)
 refine st (OS.boxA (by decide) rfl (fun ad2 => ?_))
 refine an ?_
 refine nt hK1 ?_
 refine G.seq (fun _ hK4 => ?_)
 obtain ⟨t5, wt5, h⟩ := bind_some' h
 obtain ⟨t15, wt15, h⟩ := bind_some' h
 refine G.drawN 12 mixed (by kernel_rfl) ?_
 refine tn 0 rfl hQ (fun _ _ _ => Y.fieldAddr 0 rfl fld25_0 rfl) ?_
 refine tn 1 rfl hQ (fun _ _ _ => Y.sliceArr rfl arr23 (by decide)) ?_
 refine tn 2 rfl hQ (fun S₀ X₀ e₀ => Y.convBS rfl (Blk.bsrcLab (k := (X₀.length + 0) ) (i := 0) (Lk rfl) rfl rfl) byt102 sty9) ?_
 refine tn 3 rfl hQ (fun _ _ _ => Y.fieldAddr 32 rfl fld25_1 rfl) ?_
 refine tn 4 rfl hQ (fun _ _ _ => Y.sliceArr rfl arr23 (by decide)) ?_
 refine tn 5 rfl hQ (fun S₀ X₀ e₀ => Y.convBS rfl (Blk.bsrcLab (k := (X₀.length + 0) ) (i := 1) (Lk rfl) rfl rfl) byt102 sty9) ?_
 refine tn 6 rfl hQ (fun _ _ _ => Y.fieldAddr 64 rfl fld25_2 rfl) ?_
 refine tn 7 rfl hQ (fun S₀ X₀ e₀ => Y.loadV (X₀.length + 0)  2 _ rfl (Lk rfl) rfl rfl one3) ?_
 refine g1 8 ?_
 refine n1 rfl (cl fb139 (node_number_ok a0.at_ wt5) (fun v21 S22 e23 z24 => ⟨⟨[], .refl, e23⟩, ?_⟩))
 obtain rfl := z24
 refine g1 9 ?_
 refine n1 rfl (OS.buildSliceE ([a0.label.toList, a0.value.toList, t5] : List Str) (by decide) el58 rfl (Nat.le_of_ble_eq_true rfl) rfl ⟨rfl, rfl⟩ (fun v25 => ⟨⟨[_], (.same .refl), e23⟩, ?_⟩))
 refine GDr.shareR 0 rfl (fun S27 e28 q29 => ?_)
 refine g1 10 ?_
 refine n1 rfl (cl fb138 (node_joined_ok 16 ([a0.label.toList, a0.value.toList, t5] : List Str) q29 wt15) (fun v30 S31 e32 z33 => ⟨⟨[_], (.same .refl), (l2 e23 (l2 e28 e32))⟩, ?_⟩))
 have q34 := q29.up e32
 obtain rfl := z33
 refine tn 11 rfl hQ (fun _ _ _ => Y.assign rfl) ?_
 refine dn ?_
 refine GX.then hK4 ?_
 refine G.ret ?_
 obtain rfl := Option.some.inj h
 exact hret _ _ _ _ 2 (l2 e23 (l2 e28 e32)) (.cons (.tmp rfl) .nil) rfl rfl

/- (chirograph/node.Leaf).Item -/
def node_Leaf_Item  (a0 : Leaf) : Option Item :=
 ((bits_Cut a0.label (256 : Int)).bind fun t7 => ((node_LeafBytes a0).bind fun t12 => ((sha_Sum t12).bind fun t17 => some (⟨t7.len, t7.bits, t17, a0.at_⟩ : Item))))

theorem node_Leaf_Item_ok {S : Hp} (a0 : Leaf) {r : Item} (h : node_Leaf_Item a0 = some r) : Fn Tryz.prog 53 [aggV [sL a0.label, sL a0.value, sV (.int .i64 a0.at_)]] S (fun v S' => v = aggV [sV (.int .i64 r.len), sL r.bits, sL r.sum, sV (.int .i64 r.at_)]) := by
 unfold node_Leaf_Item at h
 refine fo [.cell 2 29] 12 Tryz.func53 Tryz.ntmps53 (fun o F Q hQ hN hret => ?_)
 refine sr (fun _ hK1 => ?_)
 refine st (OS.boxA (by decide) rfl (fun ad2 => ?_))
 refine st (OS.alloc _ (by decide) zero29 (fun ad4 => ?_))
 refine nt hK1 ?_
 refine G.seq (fun _ hK6 => ?_)
 obtain ⟨t7, wt7, h⟩ := bind_some' h
 obtain ⟨t12, wt12, h⟩ := bind_some' h
 obtain ⟨t17, wt17, h⟩ := bind_some' h
 refine G.drawS 9 _ ((fun _ => True) :: Blk ad2 [sL a0.label, sL a0.value, sV (.int .i64 a0.at_)] :: F) mixed .refl (by kernel_rfl) ?_
 refine tx 0 rfl (.lose .refl) hQ (fun _ _ _ => Y.fieldAddr 0 rfl fld25_0 rfl) ?_
 refine tx 1 rfl (.lose .refl) hQ (fun S₀ X₀ e₀ => Y.loadB (X₀.length + 1)  0 1 [sL a0.label] rfl (Lk rfl) rfl rfl row23 (by kernel_rfl)) ?_
 refine tx 3 rfl (.lose .refl) hQ (fun S₀ X₀ e₀ => Y.loadB (X₀.length + 1)  0 3 [sL a0.label, sL a0.value, sV (.int .i64 a0.at_)] rfl (Lk rfl) rfl rfl row25 (by kernel_rfl)) ?_
 refine tx 6 rfl (.lose .refl) hQ (fun _ _ _ => Y.fieldAddr 64 rfl fld25_2 rfl) ?_
 refine tx 7 rfl (.lose .refl) hQ (fun S₀ X₀ e₀ => Y.loadV (X₀.length + 1)  2 _ rfl (Lk rfl) rfl rfl one3) ?_
 refine g1 2 ?_
 refine n1 rfl (cl fb126 (bits_Cut_ok a0.label (256 : Int) wt7) (fun v22 S23 e24 z25 => ⟨⟨[], .refl, e24⟩, ?_⟩))
 obtain rfl := z25
 refine g1 4 ?_
 refine n1 rfl (cl fb64 (node_LeafBytes_ok a0 wt12) (fun v26 S27 e28 z29 => ⟨⟨[], .refl, (l2 e24 e28)⟩, ?_⟩))
 obtain rfl := z29
 refine g1 5 ?_
 refine n1 rfl (cl fb66 (sha_Sum_ok t12 wt17) (fun v30 S31 e32 z33 => ⟨⟨[], .refl, (l2 e24 (l2 e28 e32))⟩, ?_⟩))
 obtain rfl := z33
 refine tx 8 rfl (.lose .refl) hQ (fun _ _ _ => Y.buildE _ [sV (.int .i64 t7.len), sL t7.bits, sL t17, sV (.int .i64 a0.at_)] strt29 zero29 rfl (.cons 0 2 [sV (.int .i64 t7.len), sL t7.bits] rfl (aggV_cells _) rfl rfl rfl (.cons 2 1 [sL t17] rfl (aggV_cells _) rfl rfl rfl (.cons 3 1 [sV (.int .i64 a0.at_)] rfl rfl rfl rfl rfl .nil)))) ?_
 refine g1 9 ?_
 refine n2 rfl (OS.store 0 0 4 [sV (.int .i64 t7.len), sL t7.bits, sL t17, sV (.int .i64 a0.at_)] (r := [sV (.int .i64 t7.len), sL t7.bits, sL t17, sV (.int .i64 a0.at_)]) rfl rfl (aggV_cells _) (oI (oL (oL (oI oN)))) rfl rfl size29 (by kernel_rfl) (by kernel_rfl) (by kernel_rfl) ⟨⟨[], (.lose .refl), (l2 e24 (l2 e28 e32))⟩, ?_⟩)
 refine dn ?_
 refine GX.then hK6 ?_
 refine G.ret ?_
 obtain rfl := Option.some.inj h
 exact hret _ _ _ _ 2 (l2 e24 (l2 e28 e32)) (.cons (.row (k := 0) rfl rfl row29 (by kernel_rfl)) .nil) rfl rfl

/- chirograph/node.Empty -/
def node_Empty   : Option Lab :=
 ((sha_Joined 18 ([])).bind fun t5 => some t5)

theorem node_Empty_ok {S : Hp}  {r : Lab} (h : node_Empty = some r) : Fn Tryz.prog 38 [] S (fun v S' => v = aggV [sL r]) := by
 unfold node_Empty at h
 refine fo [.cell 0 23] 2 Tryz.func38 Tryz.ntmps38 (fun o F Q hQ hN hret => ?_)
 refine sr (fun _ hK1 => ?_)
 refine st (OS.alloc _ (by decide) zero23 (fun ad2 => ?_))
 refine nt hK1 ?_
 refine sr (fun _ hK4 => ?_)
 obtain ⟨t5, wt5, h⟩ := bind_some' h
 refine st (cl fb112 (sha_Joined_ok 18 ([]) (Sls.nil (α := Str) _) wt5) (fun v6 S7 e8 z9 => ?_))
 obtain rfl := z9
 refine sf 0 1 [sL t5] (aggV_cells _) (oL oN) size23 ?_
 refine nt hK4 ?_
 refine G.ret ?_
 obtain rfl := Option.some.inj h
 exact hret _ _ _ _ 1 e8 (.cons (.row (k := 0) rfl rfl row23 (by kernel_rfl)) .nil) rfl rfl

/- chirograph/node.read -/
def node_read  (a0 : Rd) : Option (Item × Rd) :=
 ((code_Reader_Number a0).bind fun t5 => ((code_Reader_Label t5.2).bind fun t10 => ((code_Reader_Label t10.2).bind fun t15 => ((code_Reader_Number t15.2).bind fun t20 => some ((⟨t5.1, t10.1, t15.1, t20.1⟩ : Item), t20.2)))))

theorem node_read_ok {S : Hp} (a0 : Rd) {b0 : Nat} {r : Item × Rd} (h : node_read a0 = some r) : FnP Tryz.prog 167 [.pointer (some ⟨b0, 0, none⟩)] S (Blk b0 [sV (strV a0.s), sV (.int .i64 a0.at_), sV (.int .i64 a0.err)]) (fun v S' A' => v = aggV [sV (.int .i64 r.1.len), sL r.1.bits, sL r.1.sum, sV (.int .i64 r.1.at_)] ∧ A' = Blk b0 [sV (strV r.2.s), sV (.int .i64 r.2.at_), sV (.int .i64 r.2.err)]) := by
 unfold node_read at h
 refine Fn.ofP [.cell 2 29] 13 Tryz.func167 rfl Tryz.ntmps167 (Nat.le_of_ble_eq_true rfl) rfl (fun o F Q hQ hN hret => ?_)
 refine sr (fun _ hK1 => ?_)
 refine st (OS.alloc _ (by decide) zero29 (fun ad2 => ?_))
 refine nt hK1 ?_
 refine sr (fun _ hK4 => ?_)
 refine mv ?_
 obtain ⟨t5, wt5, h⟩ := bind_some' h
 refine st (OS.callP 1 _ (by decide) rfl fb92 rfl (code_Reader_Number_ok a0 wt5) (fun v6 S7 _ e8 z9 => ?_))
 obtain ⟨rfl, rfl⟩ := z9
 refine mv ?_
 obtain ⟨t10, wt10, h⟩ := bind_some' h
 refine st (OS.callP 1 _ (by decide) rfl fb93 rfl (code_Reader_Label_ok t5.2 wt10) (fun v11 S12 _ e13 z14 => ?_))
 obtain ⟨rfl, rfl⟩ := z14
 refine vl (Y.buildE _ [sV (.int .i64 t5.1), sL t10.1] strt27 zero27 rfl (.cons 0 1 [sV (.int .i64 t5.1)] rfl rfl rfl rfl rfl (.cons 1 1 [sL t10.1] rfl (aggV_cells _) rfl rfl rfl .nil))) ?_
 refine mv ?_
 obtain ⟨t15, wt15, h⟩ := bind_some' h
 refine st (OS.callP 1 _ (by decide) rfl fb93 rfl (code_Reader_Label_ok t10.2 wt15) (fun v16 S17 _ e18 z19 => ?_))
 obtain ⟨rfl, rfl⟩ := z19
 refine mv ?_
 obtain ⟨t20, wt20, h⟩ := bind_some' h
 refine st (OS.callP 1 _ (by decide) rfl fb92 rfl (code_Reader_Number_ok t15.2 wt20) (fun v21 S22 _ e23 z24 => ?_))
 obtain ⟨rfl, rfl⟩ := z24
 refine vl (Y.buildE _ [sV (.int .i64 t5.1), sL t10.1, sL t15.1, sV (.int .i64 t20.1)] strt29 zero29 rfl (.cons 0 2 [sV (.int .i64 t5.1), sL t10.1] rfl (aggV_cells _) rfl rfl rfl (.cons 2 1 [sL t15.1] rfl (aggV_cells _) rfl rfl rfl (.cons 3 1 [sV (.int .i64 t20.1)] rfl rfl rfl rfl rfl .nil)))) ?_
 refine sf 0 4 [sV (.int .i64 t5.1), sL t10.1, sL t15.1, sV (.int .i64 t20.1)] (aggV_cells _) (oI (oL (oL (oI oN)))) size29 ?_
 refine nt hK4 ?_
 refine G.ret ?_
 obtain rfl := Option.some.inj h
 exact hret _ _ _ _ _ 1 (l2 e8 (l2 e13 (l2 e18 e23))) (.cons (.row (k := 0) rfl rfl row29 (by kernel_rfl)) .nil) ⟨rfl, rfl⟩ rfl

/- chirograph/node.Read -/
def node_Read  (a0 : Str) : Option (Nd × Int) :=
 ((code_Open a0).bind fun t3 => ((code_Reader_Flag t3).bind fun t13 => (if t13.1 = true then ((node_read t13.2).bind fun t19 => ((node_read t19.2).bind fun t24 => ((code_Reader_Done t24.2).bind fun t31 => (if (t31.1 != (0 : Int)) = true then some (Nd.nil, t31.1) else ((node_Check (Nd.inner (⟨t19.1, t24.1⟩ : Inner))).bind fun t41 => (if (t41 != (0 : Int)) = true then some (Nd.nil, t41) else some ((Nd.inner (⟨t19.1, t24.1⟩ : Inner)), (0 : Int)))))))) else ((code_Reader_Label t13.2).bind fun t50 => ((code_Reader_Label t50.2).bind fun t55 => ((code_Reader_Number t55.2).bind fun t60 => ((code_Reader_Done t60.2).bind fun t67 => (if (t67.1 != (0 : Int)) = true then some (Nd.nil, t67.1) else ((node_Check (Nd.leaf (⟨t50.1, t55.1, t60.1⟩ : Leaf))).bind fun t77 => (if (t77 != (0 : Int)) = true then some (Nd.nil, t77) else some ((Nd.leaf (⟨t50.1, t55.1, t60.1⟩ : Leaf)), (0 : Int))))))))))))

theorem node_Read_ok {S : Hp} (a0 : Str) {r : Nd × Int} (h : node_Read a0 = some r) : Fn Tryz.prog 87 [strV a0] S (fun v S' => v = .tuple #[ndV r.1, .int .i64 r.2]) := by
 unfold node_Read at h
 refine fo [.tmp 2, .tmp 3] 37 Tryz.func87 Tryz.ntmps87 (fun o F Q hQ hN hret => ?_)
 refine sr (fun _ hK1 => ?_)
 refine an ?_
 refine an ?_
 refine nt hK1 ?_
 refine sr (fun _ hK2 => ?_)
 refine mv ?_
 obtain ⟨t3, wt3, h⟩ := bind_some' h
 refine st (OS.callN _ (by decide) rfl fb85 (code_Open_ok a0 wt3) (fun v4 S5 _ e6 z7 => ?_))
 obtain ⟨ad8, rfl, rfl⟩ := z7
 refine an ?_
 refine nt hK2 ?_
 refine sr (fun _ hK10 => ?_)
 refine an ?_
 refine nt hK10 ?_
 refine G.seq (fun _ hK11 => ?_)
 refine sr (fun _ hK12 => ?_)
 refine mv ?_
 obtain ⟨t13, wt13, h⟩ := bind_some' h
 refine st (OS.callP 0 _ (by decide) rfl fb166 rfl (code_Reader_Flag_ok t3 wt13) (fun v14 S15 _ e16 z17 => ?_))
 obtain ⟨rfl, rfl⟩ := z17
 refine nt hK12 ?_
 refine G.cond _ rfl (fun c18 => ?_) (fun c18 => ?_)
 ·replace h := ite_t c18 h
  refine G.region ?_
  refine mv ?_
  obtain ⟨t19, wt19, h⟩ := bind_some' h
  refine st (OS.callP 0 _ (by decide) rfl fb167 rfl (node_read_ok t13.2 wt19) (fun v20 S21 _ e22 z23 => ?_))
  obtain ⟨rfl, rfl⟩ := z23
  refine mv ?_
  obtain ⟨t24, wt24, h⟩ := bind_some' h
  refine st (OS.callP 0 _ (by decide) rfl fb167 rfl (node_read_ok t19.2 wt24) (fun v25 S26 _ e27 z28 => ?_))
  obtain ⟨rfl, rfl⟩ := z28
  refine vl (Y.buildE _ [sV (.int .i64 t19.1.len), sL t19.1.bits, sL t19.1.sum, sV (.int .i64 t19.1.at_), sV (.int .i64 t24.1.len), sL t24.1.bits, sL t24.1.sum, sV (.int .i64 t24.1.at_)] strt31 zero31 rfl (.cons 0 4 [sV (.int .i64 t19.1.len), sL t19.1.bits, sL t19.1.sum, sV (.int .i64 t19.1.at_)] rfl (aggV_cells _) rfl rfl rfl (.cons 4 4 [sV (.int .i64 t24.1.len), sL t24.1.bits, sL t24.1.sum, sV (.int .i64 t24.1.at_)] rfl (aggV_cells _) rfl rfl rfl .nil))) ?_
  refine vl (Y.mkI rfl stt31) ?_
  refine an ?_
  refine nt hK11 ?_
  refine G.seq (fun _ hK29 => ?_)
  refine sr (fun _ hK30 => ?_)
  refine mv ?_
  obtain ⟨t31, wt31, h⟩ := bind_some' h
  refine st (OS.callP 0 _ (by decide) rfl fb89 rfl (code_Reader_Done_ok t24.2 wt31) (fun v32 S33 _ e34 z35 => ?_))
  obtain ⟨rfl, rfl⟩ := z35
  refine an ?_
  refine nt hK30 ?_
  refine sr (fun _ hK36 => ?_)
  refine mv ?_
  refine vl (Y.neI rfl rfl) ?_
  refine nt hK36 ?_
  refine G.cond _ rfl (fun c37 => ?_) (fun c37 => ?_)
  ·replace h := ite_t c37 h
   refine sr (fun _ hK38 => ?_)
   refine mv ?_
   refine an ?_
   refine an ?_
   refine nt hK38 ?_
   refine G.ret ?_
   obtain rfl := Option.some.inj h
   exact hret _ _ _ _ 1 (l2 e6 (l2 e16 (l2 e22 (l2 e27 e34)))) (.cons (.tmp rfl) (.cons (.tmp rfl) .nil)) rfl rfl
  replace h := ite_f c37 h
  refine sk hK29 ?_
  refine G.seq (fun _ hK39 => ?_)
  refine sr (fun _ hK40 => ?_)
  refine mv ?_
  obtain ⟨t41, wt41, h⟩ := bind_some' h
  refine st (cl fb52 (node_Check_ok (Nd.inner (⟨t19.1, t24.1⟩ : Inner)) wt41) (fun v42 S43 e44 z45 => ?_))
  obtain rfl := z45
  refine an ?_
  refine nt hK40 ?_
  refine sr (fun _ hK46 => ?_)
  refine mv ?_
  refine vl (Y.neI rfl rfl) ?_
  refine nt hK46 ?_
  refine G.cond _ rfl (fun c47 => ?_) (fun c47 => ?_)
  ·replace h := ite_t c47 h
   refine sr (fun _ hK48 => ?_)
   refine mv ?_
   refine an ?_
   refine an ?_
   refine nt hK48 ?_
   refine G.ret ?_
   obtain rfl := Option.some.inj h
   exact hret _ _ _ _ 1 (l2 e6 (l2 e16 (l2 e22 (l2 e27 (l2 e34 e44))))) (.cons (.tmp rfl) (.cons (.tmp rfl) .nil)) rfl rfl
  replace h := ite_f c47 h
  refine sk hK39 ?_
  refine sr (fun _ hK49 => ?_)
  refine mv ?_
  refine an ?_
  refine an ?_
  refine nt hK49 ?_
  refine G.ret ?_
  obtain rfl := Option.some.inj h
  exact hret _ _ _ _ 1 (l2 e6 (l2 e16 (l2 e22 (l2 e27 (l2 e34 e44))))) (.cons (.tmp rfl) (.cons (.tmp rfl) .nil)) rfl rfl
 replace h := ite_f c18 h
 refine G.region ?_
 refine mv ?_
 obtain ⟨t50, wt50, h⟩ := bind_some' h
 refine st (OS.callP 0 _ (by decide) rfl fb93 rfl (code_Reader_Label_ok t13.2 wt50) (fun v51 S52 _ e53 z54 => ?_))
 obtain ⟨rfl, rfl⟩ := z54
 refine mv ?_
 obtain ⟨t55, wt55, h⟩ := bind_some' h
 refine st (OS.callP 0 _ (by decide) rfl fb93 rfl (code_Reader_Label_ok t50.2 wt55) (fun v56 S57 _ e58 z59 => ?_))
 obtain ⟨rfl, rfl⟩ := z59
 refine mv ?_
 obtain ⟨t60, wt60, h⟩ := bind_some' h
 refine st (OS.callP 0 _ (by decide) rfl fb92 rfl (code_Reader_Number_ok t55.2 wt60) (fun v61 S62 _ e63 z64 => ?_))
 obtain ⟨rfl, rfl⟩ := z64
 refine vl (Y.buildE _ [sL t50.1, sL t55.1, sV (.int .i64 t60.1)] strt25 zero25 rfl (.cons 0 1 [sL t50.1] rfl (aggV_cells _) rfl rfl rfl (.cons 1 1 [sL t55.1] rfl (aggV_cells _) rfl rfl rfl (.cons 2 1 [sV (.int .i64 t60.1)] rfl rfl rfl rfl rfl .nil)))) ?_
 refine vl (Y.mkI rfl stt25) ?_
 refine an ?_
 refine nt hK11 ?_
 refine G.seq (fun _ hK65 => ?_)
 refine sr (fun _ hK66 => ?_)
 refine mv ?_
 obtain ⟨t67, wt67, h⟩ := bind_some' h
 refine st (OS.callP 0 _ (by decide) rfl fb89 rfl (code_Reader_Done_ok t60.2 wt67) (fun v68 S69 _ e70 z71 => ?_))
 obtain ⟨rfl, rfl⟩ := z71
 refine an ?_
 refine nt hK66 ?_
 refine sr (fun _ hK72 => ?_)
 refine mv ?_
 refine vl (Y.neI rfl rfl) ?_
 refine nt hK72 ?_
 refine G.cond _ rfl (fun c73 => ?_) (fun c73 => ?_)
 ·replace h := ite_t c73 h
  refine sr (fun _ hK74 => ?_)
  refine mv ?_
  refine an ?_
  refine an ?_
  refine nt hK74 ?_
  refine G.ret ?_
  obtain rfl := Option.some.inj h
  exact hret _ _ _ _ 1 (l2 e6 (l2 e16 (l2 e53 (l2 e58 (l2 e63 e70))))) (.cons (.tmp rfl) (.cons (.tmp rfl) .nil)) rfl rfl
 replace h := ite_f c73 h
 refine sk hK65 ?_
 refine G.seq (fun _ hK75 => ?_)
 refine sr (fun _ hK76 => ?_)
 refine mv ?_
 obtain ⟨t77, wt77, h⟩ := bind_some' h
 refine st (cl fb52 (node_Check_ok (Nd.leaf (⟨t50.1, t55.1, t60.1⟩ : Leaf)) wt77) (fun v78 S79 e80 z81 => ?_))
 obtain rfl := z81
 refine an ?_
 refine nt hK76 ?_
 refine sr (fun _ hK82 => ?_)
 refine mv ?_
 refine vl (Y.neI rfl rfl) ?_
 refine nt hK82 ?_
 refine G.cond _ rfl (fun c83 => ?_) (fun c83 => ?_)
 ·replace h := ite_t c83 h
  refine sr (fun _ hK84 => ?_)
  refine mv ?_
  refine an ?_
  refine an ?_
  refine nt hK84 ?_
  refine G.ret ?_
  obtain rfl := Option.some.inj h
  exact hret _ _ _ _ 1 (l2 e6 (l2 e16 (l2 e53 (l2 e58 (l2 e63 (l2 e70 e80)))))) (.cons (.tmp rfl) (.cons (.tmp rfl) .nil)) rfl rfl
 replace h := ite_f c83 h
 refine sk hK75 ?_
 refine sr (fun _ hK85 => ?_)
 refine mv ?_
 refine an ?_
 refine an ?_
 refine nt hK85 ?_
 refine G.ret ?_
 obtain rfl := Option.some.inj h
 exact hret _ _ _ _ 1 (l2 e6 (l2 e16 (l2 e53 (l2 e58 (l2 e63 (l2 e70 e80)))))) (.cons (.tmp rfl) (.cons (.tmp rfl) .nil)) rfl rfl

/- chirograph/node.AsLeaf -/
def node_AsLeaf  (a0 : Nd) : Option (Leaf × Bool) :=
 (match a0 with | .leaf x5 => some (x5, true) | .inner x6 => some ((⟨zL, zL, 0⟩ : Leaf), false) | .nil => some ((⟨zL, zL, 0⟩ : Leaf), false))

theorem node_AsLeaf_ok {S : Hp} (a0 : Nd) {r : Leaf × Bool} (h : node_AsLeaf a0 = some r) : Fn Tryz.prog 90 [ndV a0] S (fun v S' => v = .tuple #[aggV [sL r.1.label, sL r.1.value, sV (.int .i64 r.1.at_)], .bool r.2]) := by
 unfold node_AsLeaf at h
 refine fo [.cell 2 25, .tmp 3] 13 Tryz.func90 Tryz.ntmps90 (fun o F Q hQ hN hret => ?_)
 refine sr (fun _ hK1 => ?_)
 refine st (OS.alloc _ (by decide) zero25 (fun ad2 => ?_))
 refine an ?_
 refine nt hK1 ?_
 refine sr (fun _ hK4 => ?_)
 refine mv ?_
 generalize a0 = n₀ at h ⊢
 rcases n₀ with x5 | x6 | _
 ·try dsimp only at h
  refine vl (Y.taYes rfl stt25) ?_
  refine mv ?_
  refine vl (Y.extract _ rfl rfl) ?_
  refine vl (Y.extract _ rfl rfl) ?_
  refine st (OS.alloc _ (by decide) zero25 (fun ad7 => ?_))
  refine sf 0 3 [sL x5.label, sL x5.value, sV (.int .i64 x5.at_)] (aggV_cells _) (oL (oL (oI oN))) size25 ?_
  refine an ?_
  refine nt hK4 ?_
  refine sr (fun _ hK9 => ?_)
  refine lb 0 0 3 [sL x5.label, sL x5.value, sV (.int .i64 x5.at_)] row25 ?_
  refine mv ?_
  refine sf 1 3 [sL x5.label, sL x5.value, sV (.int .i64 x5.at_)] (aggV_cells _) (oL (oL (oI oN))) size25 ?_
  refine an ?_
  refine nt hK9 ?_
  refine G.ret ?_
  obtain rfl := Option.some.inj h
  exact hret _ _ _ _ 2 l0 (.cons (.row (k := 1) rfl rfl row25 (by kernel_rfl)) (.cons (.tmp rfl) .nil)) rfl rfl
 ·try dsimp only at h
  refine vl (Y.taNo rfl stt25 zero25 rfl _ zv25) ?_
  refine mv ?_
  refine vl (Y.extract _ rfl rfl) ?_
  refine vl (Y.extract _ rfl rfl) ?_
  refine st (OS.alloc _ (by decide) zero25 (fun ad10 => ?_))
  refine sf 0 3 [sL zL, sL zL, sV (.int .i64 0)] (aggV_cells _) (oL (oL (oI oN))) size25 ?_
  refine an ?_
  refine nt hK4 ?_
  refine sr (fun _ hK12 => ?_)
  refine lb 0 0 3 [sL zL, sL zL, sV (.int .i64 0)] row25 ?_
  refine mv ?_
  refine sf 1 3 [sL zL, sL zL, sV (.int .i64 0)] (aggV_cells _) (oL (oL (oI oN))) size25 ?_
  refine an ?_
  refine nt hK12 ?_
  refine G.ret ?_
  obtain rfl := Option.some.inj h
  exact hret _ _ _ _ 2 l0 (.cons (.row (k := 1) rfl rfl row25 (by kernel_rfl)) (.cons (.tmp rfl) .nil)) rfl rfl
 try dsimp only at h
 refine vl (Y.taNil (segs := []) rfl stt25 _ zv25) ?_
 refine mv ?_
 refine vl (Y.extract _ rfl rfl) ?_
 refine vl (Y.extract _ rfl rfl) ?_
 refine st (OS.alloc _ (by decide) zero25 (fun ad13 => ?_))
 refine sf 0 3 [sL zL, sL zL, sV (.int .i64 0)] (aggV_cells _) (oL (oL (oI oN))) size25 ?_
 refine an ?_
 refine nt hK4 ?_
 refine sr (fun _ hK15 => ?_)
 refine lb 0 0 3 [sL zL, sL zL, sV (.int .i64 0)] row25 ?_
 refine mv ?_
 refine sf 1 3 [sL zL, sL zL, sV (.int .i64 0)] (aggV_cells _) (oL (oL (oI oN))) size25 ?_
 refine an ?_
 refine nt hK15 ?_
 refine G.ret ?_
 obtain rfl := Option.some.inj h
 exact hret _ _ _ _ 2 l0 (.cons (.row (k := 1) rfl rfl row25 (by kernel_rfl)) (.cons (.tmp rfl) .nil)) rfl rfl

end
end Go.Ch
end
