/- ProofChecks of layer 18 returns true for every input, and each argument reads behind the call as it read before. Part 3 of 6. No condition. -/
import Derived.Test.YtchjaknlegaegaaGreatPc1
section
/- Functions of the program: what each comes to, proved. -/
set_option linter.unusedVariables false
set_option linter.unusedSimpArgs false
set_option maxRecDepth 100000
set_option maxHeartbeats 4000000
namespace Go.Ch
open Go.RowKit (wrap64)
open Go.Proofs
noncomputable section
/- slices.Clone[[]chirograph/node.Leaf,chirograph/node.Leaf] -/
def slices_Clone_Leaf (a0 : List Leaf) : Option (List Leaf) := (req (List.length ([] : List Leaf) + List.length a0 ≤ LIM)).bind fun _ => some ([] ++ a0)
theorem slices_Clone_Leaf_ok {S : Hp} (a0 : List Leaf) {va0 : Value} (qa0 : Sls S va0 a0) {r : List Leaf} (h : slices_Clone_Leaf a0 = some r) : FnN Tryz.prog 118 [va0] S (fun v S' A' => A' = Rw v r) := by
  unfold slices_Clone_Leaf at h
  obtain ⟨g, h⟩ := req_bind h
  obtain rfl := Option.some.inj h
  have hq := qa0
  obtain ⟨a, cap, rfl, hc, hx⟩ := hq
  refine Fn.ofN [.tmp 2] 8 Tryz.func118 rfl Tryz.ntmps118 (Nat.le_of_ble_eq_true rfl) rfl (fun o F Q hQ hN hret => ?_)
  refine G.seq (fun K1 hK1 => ?_)
  refine G.region ?_
  refine GO.val _ (by decide) (Y.assign rfl) ?_
  refine GO.nil ?_
  refine GX.then hK1 ?_
  refine G.seq (fun K2 hK2 => ?_)
  refine G.seq (fun K3 hK3 => ?_)
  refine G.region ?_
  refine GO.val _ (by decide) (Y.move rfl) ?_
  refine GO.val _ (by decide) (Y.eqNil rfl rfl slc35) ?_
  refine GO.nil ?_
  refine GX.then hK3 ?_
  refine G.cond _ rfl (fun c => ?_) (fun c => ?_)
  · have ha : a0 = [] := by
      rcases hx with hx | ⟨b, off, rfl, _⟩
      · exact hx
      · simp at c
    subst ha
    refine G.seq (fun K4 hK4 => ?_)
    refine G.region ?_
    refine GO.nilRow (α := Leaf) ?_
    refine GO.val _ (by decide) (Y.assign rfl) ?_
    refine GO.nil ?_
    refine GX.then hK4 ?_
    refine G.ret ?_
    exact hret _ _ _ _ _ 0 (Hp.le_refl _) (.cons (.tmp rfl) .nil) rfl rfl
  · refine G.skip ?_
    refine GX.then hK2 ?_
    refine G.seq (fun K5 hK5 => ?_)
    refine G.region ?_
    refine GO.step (OS.buildSliceE ([] : List Leaf) (by decide) el35 rfl (Nat.le_of_ble_eq_true rfl) rfl ⟨rfl, rfl⟩ (fun v5 => ?_))
    refine GO.val _ (by decide) (Y.move rfl) ?_
    refine GO.step (OS.append (xs := ([] : List Leaf)) (ys := a0) 0 (by decide) rfl rfl rfl qa0.src el35 src35 g (fun v6 => ?_))
    refine GO.val _ (by decide) (Y.assign rfl) ?_
    refine GO.nil ?_
    refine GX.then hK5 ?_
    refine G.ret ?_
    exact hret _ _ _ _ _ 0 (Hp.le_refl _) (.cons (.tmp rfl) .nil) rfl rfl

/- slices.insertionSortCmpFunc[chirograph/node.Leaf] -/
def slices_insertionSortCmpFunc_Leaf_s2 (a1 : Int) (a3 : (Leaf → Leaf → Option Int)) : (Int × (List Leaf)) → Option ((Int × (List Leaf)) ⊕ (Int × (List Leaf)))
 | (x16, x17) => ((if (decide (a1 < x16)) = true then ((req ((0 : Int) ≤ x16 ∧ x16 < lenI x17)).bind fun _ => ((req ((0 : Int) ≤ (wrap64 (x16 - (1 : Int))) ∧ (wrap64 (x16 - (1 : Int))) < lenI x17)).bind fun _ => ((a3 (getI x17 x16) (getI x17 (wrap64 (x16 - (1 : Int))))).bind fun t34 => some (decide (t34 < (0 : Int)))))) else some false).bind fun b24 => (if b24 = true then ((req ((0 : Int) ≤ (wrap64 (x16 - (1 : Int))) ∧ (wrap64 (x16 - (1 : Int))) < lenI x17)).bind fun _ => ((req ((0 : Int) ≤ x16 ∧ x16 < lenI x17)).bind fun _ => ((req ((0 : Int) ≤ x16 ∧ x16 < lenI x17)).bind fun _ => ((req ((0 : Int) ≤ (wrap64 (x16 - (1 : Int))) ∧ (wrap64 (x16 - (1 : Int))) < lenI (x17.set (Int.toNat x16) (getI x17 (wrap64 (x16 - (1 : Int))))))).bind fun _ => some (.inl ((wrap64 (x16 - (1 : Int))), ((x17.set (Int.toNat x16) (getI x17 (wrap64 (x16 - (1 : Int))))).set (Int.toNat (wrap64 (x16 - (1 : Int)))) (getI x17 x16)))))))) else some (.inr (x16, x17))))

def slices_insertionSortCmpFunc_Leaf_s1 (a1 : Int) (a2 : Int) (a3 : (Leaf → Leaf → Option Int)) : (Int × (List Leaf)) → Option ((Int × (List Leaf)) ⊕ (Int × (List Leaf)))
 | (x4, x5) => (if (decide (x4 < a2)) = true then ((iter (slices_insertionSortCmpFunc_Leaf_s2 a1 a3) (x4, x5)).bind fun b19 => (match b19 with | (x16, x17) => some (.inl ((wrap64 (x4 + (1 : Int))), x17)))) else some (.inr (x4, x5)))

def slices_insertionSortCmpFunc_Leaf  (a0 : (List Leaf)) (a1 : Int) (a2 : Int) (a3 : (Leaf → Leaf → Option Int)) : Option (List Leaf) :=
 ((iter (slices_insertionSortCmpFunc_Leaf_s1 a1 a2 a3) ((wrap64 (a1 + (1 : Int))), a0)).bind fun b7 => (match b7 with | (x4, x5) => some x5))

theorem slices_insertionSortCmpFunc_Leaf_ok {S : Hp} (a0 : (List Leaf)) (a1 : Int) (a2 : Int) (a3 : (Leaf → Leaf → Option Int)) {va0 : Value} {fv3 : Nat} {cp3 : List Value} (fb3 : FnB Tryz.prog fv3) (hc3 : ∀ S₁, S.le S₁ → ∀ (x0₁ : Leaf) (x1₁ : Leaf) (r₁ : Int), a3 x0₁ x1₁ = some r₁ → Fn Tryz.prog fv3 ([aggV [sL x0₁.label, sL x0₁.value, sV (.int .i64 x0₁.at_)], aggV [sL x1₁.label, sL x1₁.value, sV (.int .i64 x1₁.at_)]] ++ cp3) S₁ (fun v S' => v = .int .i64 r₁)) {r : (List Leaf)} (h : slices_insertionSortCmpFunc_Leaf a0 a1 a2 a3 = some r) : FnP Tryz.prog 199 [va0, .int .i64 a1, .int .i64 a2, fnV fv3 cp3] S (Rw va0 a0) (fun v S' A' => v = .tuple #[] ∧ A' = Rw va0 r) := by
 unfold slices_insertionSortCmpFunc_Leaf at h
 refine Fn.ofP [] 53 Tryz.func199 rfl Tryz.ntmps199 (Nat.le_of_ble_eq_true rfl) rfl (fun o F Q hQ hN hret => ?_)
 refine sr (fun _ hK1 => ?_)
 refine mv ?_
 refine vl (Y.addI rfl rfl) ?_
 refine an ?_
 refine nt hK1 ?_
 refine G.block ?_
 obtain ⟨b7, wb7, ho8⟩ := bind_some' h
 refine G.keep [8, 0, 1, 2, 3] rfl ?_
 refine G.loopK (slices_insertionSortCmpFunc_Leaf_s1 a1 a2 a3) (fun s₀ E' S' L' => match s₀ with | (x4, x5) => S.le S' ∧ E' = [(8, .int .i64 x4), (0, va0), (1, .int .i64 a1), (2, .int .i64 a2), (3, fnV fv3 cp3)] ∧ Rw va0 x5 :: F = L') b7 0 (fun E₀ S₀ L₀ => ∃ (x4 : Int) (x5 : (List Leaf)), S.le S₀ ∧ b7 = (x4, x5) ∧ E₀ = [] ∧ Rw va0 x5 :: F = L₀) wb7 ?_ ?_ ?_
 ·rintro _ S65 _ ⟨x4, x5, e66, rfl, rfl, rfl⟩
  have h := ho8; clear ho8
  try dsimp only at h
  refine GX.exit_block ?_
  refine GX.fall hN ?_
  obtain rfl := Option.some.inj h
  exact hret _ _ _ _ _ 0 e66 .nil ⟨rfl, rfl⟩ rfl
 ·exact ⟨Hp.le_refl _, rfl, rfl⟩
 rintro ⟨x4, x5⟩ _ S2 _ ⟨e3, rfl, rfl⟩ out1 h hf1 K1 hK1 hx6
 rw [slices_insertionSortCmpFunc_Leaf_s1] at h
 refine G.seq (fun _ hK9 => ?_)
 refine sr (fun _ hK10 => ?_)
 refine mv ?_
 refine mv ?_
 refine vl (Y.ltI rfl rfl) ?_
 refine nt hK10 ?_
 refine G.cond _ rfl (fun c11 => ?_) (fun c11 => ?_)
 ·replace h := ite_t c11 h
  refine sk hK9 ?_
  refine G.seq (fun _ hK12 => ?_)
  refine G.block ?_
  refine sr (fun _ hK13 => ?_)
  refine mv ?_
  refine an ?_
  refine nt hK13 ?_
  refine G.block ?_
  obtain ⟨b19, wb19, ho20⟩ := bind_some' h
  refine G.keep [9, 8, 0, 1, 2, 3] rfl ?_
  refine G.loopK (slices_insertionSortCmpFunc_Leaf_s2 a1 a3) (fun s₀ E' S' L' => match s₀ with | (x16, x17) => S2.le S' ∧ E' = [(9, .int .i64 x16), (8, .int .i64 x4), (0, va0), (1, .int .i64 a1), (2, .int .i64 a2), (3, fnV fv3 cp3)] ∧ Rw va0 x17 :: F = L') b19 2 (fun E₀ S₀ L₀ => ∃ (x16 : Int) (x17 : (List Leaf)), S2.le S₀ ∧ b19 = (x16, x17) ∧ E₀ = [(8, .int .i64 x4), (0, va0), (1, .int .i64 a1), (2, .int .i64 a2), (3, fnV fv3 cp3)] ∧ Rw va0 x17 :: F = L₀) wb19 ?_ ?_ ?_
  ·rintro _ S63 _ ⟨x16, x17, e64, rfl, rfl, rfl⟩
   have h := ho20; clear ho20
   try dsimp only at h
   refine GX.exit_block ?_
   refine GX.normal_block ?_
   refine GX.then hK12 ?_
   refine G.region ?_
   refine mv ?_
   refine vl (Y.addI rfl rfl) ?_
   refine an ?_
   refine GO.nil ?_
   obtain rfl := Option.some.inj h
   refine GX.keep [8, 0, 1, 2, 3] rfl ?_
   exact hK1 _ _ _ _ rfl ⟨(l2 e3 e64), rfl, rfl⟩
  ·exact ⟨Hp.le_refl _, rfl, rfl⟩
  rintro ⟨x16, x17⟩ _ S14 _ ⟨e15, rfl, rfl⟩ out2 h hf2 K2 hK2 hx18
  rw [slices_insertionSortCmpFunc_Leaf_s2] at h
  refine G.seq (fun _ hK21 => ?_)
  refine G.seq (fun _ hK22 => ?_)
  obtain ⟨b24, wb24, h⟩ := bind_some' h
  refine G.cut (fun E₀ S₀ L₀ => S14.le S₀ ∧ E₀ = [(34, .bool b24), (9, .int .i64 x16), (8, .int .i64 x4), (0, va0), (1, .int .i64 a1), (2, .int .i64 a2), (3, fnV fv3 cp3)] ∧ Rw va0 x17 :: F = L₀) (fun K23 hK23 => ?_) ?_
  ·replace h := wb24
   rcases Bool.eq_false_or_eq_true (decide (a1 < x16)) with c25 | c25
   ·replace h := ite_t c25 h
    obtain ⟨g26, h⟩ := req_bind h
    refine G.rowAt 0 rfl g26 (fun ad27 p28 z29 => ?_)
    obtain ⟨g30, h⟩ := req_bind h
    refine G.rowAt 0 rfl g30 (fun ad31 p32 z33 => ?_)
    obtain ⟨t34, wt34, h⟩ := bind_some' h
    obtain rfl := Option.some.inj h
    refine G.drawN 17 mixed (by kernel_rfl) ?_
    refine tn 0 rfl hQ (fun _ _ _ => Y.move rfl) ?_
    refine tn 1 rfl hQ (fun _ _ _ => Y.move rfl) ?_
    refine tn 2 rfl hQ (fun _ _ _ => Y.gtI rfl rfl) ?_
    refine tn 3 rfl hQ (fun _ _ _ => Y.move rfl) ?_
    refine tw 4 rfl .refl hQ (gi 21 c25) (fun _ _ _ => Y.move rfl) ?_
    refine tw 5 rfl .refl hQ (gi 21 c25) (fun _ _ _ => Y.move rfl) ?_
    refine tw 6 rfl .refl hQ (gi 21 c25) (fun _ _ _ => Y.move rfl) ?_
    refine tw 7 rfl .refl hQ (gi 21 c25) (fun _ _ _ => Y.idxR rfl z29 rfl slc35 g26) ?_
    refine tw 8 rfl .refl hQ (gi 21 c25) (fun S₀ X₀ e₀ => Y.loadRow (X₀.length + 0)  x16 0 3 [sL ((getI x17 x16).label), sL ((getI x17 x16).value), sV (.int .i64 ((getI x17 x16).at_))] rfl (Lk rfl) z29 g26 rfl rfl row25 (by kernel_rfl)) ?_
    refine tw 9 rfl .refl hQ (gi 21 c25) (fun _ _ _ => Y.move rfl) ?_
    refine tw 10 rfl .refl hQ (gi 21 c25) (fun _ _ _ => Y.move rfl) ?_
    refine tw 11 rfl .refl hQ (gi 21 c25) (fun _ _ _ => Y.subI rfl rfl) ?_
    refine tw 12 rfl .refl hQ (gi 21 c25) (fun _ _ _ => Y.idxR rfl z33 rfl slc35 g30) ?_
    refine tw 13 rfl .refl hQ (gi 21 c25) (fun S₀ X₀ e₀ => Y.loadRow (X₀.length + 0)  (wrap64 (x16 - (1 : Int))) 0 3 [sL ((getI x17 (wrap64 (x16 - (1 : Int)))).label), sL ((getI x17 (wrap64 (x16 - (1 : Int)))).value), sV (.int .i64 ((getI x17 (wrap64 (x16 - (1 : Int)))).at_))] rfl (Lk rfl) z33 g30 rfl rfl row25 (by kernel_rfl)) ?_
    refine g1 14 ?_
    refine GD1.on rfl (gi 21 c25) (by kernel_rfl) (OS.callV _ (by decide) rfl rfl fb3 (hc3 _ (l2 e3 e15) (getI x17 x16) (getI x17 (wrap64 (x16 - (1 : Int)))) _ wt34) (fun v39 S40 e41 z42 => ⟨⟨[], .refl, e41⟩, ?_⟩))
    obtain rfl := z42
    refine tw 15 rfl .refl hQ (gi 21 c25) (fun _ _ _ => Y.ltI rfl rfl) ?_
    refine tn 16 rfl hQ (fun _ _ _ => Y.pickT _ c25 rfl rfl) ?_
    refine dn ?_
    refine GX.keep [34, 9, 8, 0, 1, 2, 3] rfl ?_
    exact hK23 _ _ _ ⟨e41, rfl, rfl⟩
   replace h := ite_f c25 h
   obtain rfl := Option.some.inj h
   refine G.drawN 17 mixed (by kernel_rfl) ?_
   refine tn 0 rfl hQ (fun _ _ _ => Y.move rfl) ?_
   refine tn 1 rfl hQ (fun _ _ _ => Y.move rfl) ?_
   refine tn 2 rfl hQ (fun _ _ _ => Y.gtI rfl rfl) ?_
   refine tn 3 rfl hQ (fun _ _ _ => Y.move rfl) ?_
   refine tf 4 rfl .refl hQ (gn 21 c25) ?_
   refine tf 5 rfl .refl hQ (gn 21 c25) ?_
   refine tf 6 rfl .refl hQ (gn 21 c25) ?_
   refine tf 7 rfl .refl hQ (gn 21 c25) ?_
   refine tf 8 rfl .refl hQ (gn 21 c25) ?_
   refine tf 9 rfl .refl hQ (gn 21 c25) ?_
   refine tf 10 rfl .refl hQ (gn 21 c25) ?_
   refine tf 11 rfl .refl hQ (gn 21 c25) ?_
   refine tf 12 rfl .refl hQ (gn 21 c25) ?_
   refine tf 13 rfl .refl hQ (gn 21 c25) ?_
   refine tf 14 rfl .refl hQ (gn 21 c25) ?_
   refine tf 15 rfl .refl hQ (gn 21 c25) ?_
   refine tn 16 rfl hQ (fun _ _ _ => Y.pickF _ c25 rfl rfl) ?_
   refine dn ?_
   refine GX.keep [34, 9, 8, 0, 1, 2, 3] rfl ?_
   exact hK23 _ _ _ ⟨l0, rfl, rfl⟩
  rintro _ S43 _ ⟨e44, rfl, rfl⟩
  refine GX.then hK22 ?_
  refine G.cond _ rfl (fun c45 => ?_) (fun c45 => ?_)
  ·replace h := ite_t c45 h
   refine sk hK21 ?_
   refine G.seq (fun _ hK46 => ?_)
   refine G.block ?_
   obtain ⟨g47, h⟩ := req_bind h
   refine G.rowAt 0 rfl g47 (fun ad48 p49 z50 => ?_)
   obtain ⟨g51, h⟩ := req_bind h
   refine G.rowAt 0 rfl g51 (fun ad52 p53 z54 => ?_)
   obtain ⟨g55, h⟩ := req_bind h
   refine G.rowAt 0 rfl g55 (fun ad56 p57 z58 => ?_)
   obtain ⟨g59, h⟩ := req_bind h
   refine G.rowAt 0 rfl (by simpa [lenI] using g59) (fun ad60 p61 z62 => ?_)
   refine G.drawS 15 _ ((fun _ => True) :: F) mixed .refl (by kernel_rfl) ?_
   refine tx 0 rfl (.lose .refl) hQ (fun _ _ _ => Y.move rfl) ?_
   refine tx 1 rfl (.lose .refl) hQ (fun _ _ _ => Y.move rfl) ?_
   refine tx 2 rfl (.lose .refl) hQ (fun _ _ _ => Y.move rfl) ?_
   refine tx 3 rfl (.lose .refl) hQ (fun _ _ _ => Y.move rfl) ?_
   refine tx 4 rfl (.lose .refl) hQ (fun _ _ _ => Y.subI rfl rfl) ?_
   refine tx 5 rfl (.lose .refl) hQ (fun _ _ _ => Y.move rfl) ?_
   refine tx 6 rfl (.lose .refl) hQ (fun _ _ _ => Y.move rfl) ?_
   refine tx 7 rfl (.lose .refl) hQ (fun _ _ _ => Y.subI rfl rfl) ?_
   refine tx 8 rfl (.lose .refl) hQ (fun _ _ _ => Y.idxR rfl z50 rfl slc35 g47) ?_
   refine tk 9 [9, 15] rfl hQ Gd.none (fun S₀ X₀ e₀ => Y.loadRow (X₀.length + 0)  (wrap64 (x16 - (1 : Int))) 0 3 [sL ((getI x17 (wrap64 (x16 - (1 : Int)))).label), sL ((getI x17 (wrap64 (x16 - (1 : Int)))).value), sV (.int .i64 ((getI x17 (wrap64 (x16 - (1 : Int)))).at_))] rfl (Lk rfl) z50 g47 rfl rfl row25 (by kernel_rfl)) ?_
   refine tx 10 rfl (.lose .refl) hQ (fun _ _ _ => Y.move rfl) ?_
   refine tx 11 rfl (.lose .refl) hQ (fun _ _ _ => Y.move rfl) ?_
   refine tx 12 rfl (.lose .refl) hQ (fun _ _ _ => Y.idxR rfl z54 rfl slc35 g51) ?_
   refine tk 13 [13, 15] rfl hQ Gd.none (fun S₀ X₀ e₀ => Y.loadRow (X₀.length + 0)  x16 0 3 [sL ((getI x17 x16).label), sL ((getI x17 x16).value), sV (.int .i64 ((getI x17 x16).at_))] rfl (Lk rfl) z54 g51 rfl rfl row25 (by kernel_rfl)) ?_
   refine tx 14 rfl (.lose .refl) hQ (fun _ _ _ => Y.idxR rfl z58 rfl slc35 g55) ?_
   refine g1 15 ?_
   refine n2 rfl (OS.storeRow 0 x16 (getI x17 (wrap64 (x16 - (1 : Int)))) rfl rfl (aggV_cells _) rfl z58 g55 rfl size25 ⟨⟨[], (.lose .refl), l0⟩, ?_⟩)
   refine tx 16 rfl (.lose .refl) hQ (fun _ _ _ => Y.idxR rfl z62 rfl slc35 (by simpa [lenI] using g59)) ?_
   refine g1 17 ?_
   refine n2 rfl (OS.storeRow 0 (wrap64 (x16 - (1 : Int))) (getI x17 x16) rfl rfl (aggV_cells _) rfl z62 g59 rfl size25 ⟨⟨[], (.lose .refl), l0⟩, ?_⟩)
   refine dn ?_
   refine GX.normal_block ?_
   refine GX.then hK46 ?_
   refine G.region ?_
   refine mv ?_
   refine vl (Y.subI rfl rfl) ?_
   refine an ?_
   refine GO.nil ?_
   obtain rfl := Option.some.inj h
   refine GX.keep [9, 8, 0, 1, 2, 3] rfl ?_
   exact hK2 _ _ _ _ rfl ⟨(l2 e15 e44), rfl, rfl⟩
  replace h := ite_f c45 h
  refine G.exit ?_
  refine GX.exit_then ?_
  obtain rfl := Option.some.inj h
  refine GX.keep [8, 0, 1, 2, 3] rfl ?_
  exact hx18 _ _ _ ⟨_, _, (l2 e15 e44), (hf2 _ rfl).symm, rfl, rfl⟩
 replace h := ite_f c11 h
 refine G.exit ?_
 refine GX.exit_then ?_
 obtain rfl := Option.some.inj h
 refine GX.keep [] rfl ?_
 exact hx6 _ _ _ ⟨_, _, e3, (hf1 _ rfl).symm, rfl, rfl⟩

/- slices.stableCmpFunc[chirograph/node.Leaf] -/
def slices_stableCmpFunc_Leaf_s3 (a1 : Int) : (Int × Int) → Option ((Int × Int) ⊕ (Int × Int))
 | (x43, x44) => (if (decide (x43 ≤ a1)) = true then none else some (.inr (x43, x44)))

def slices_stableCmpFunc_Leaf_s2 (a1 : Int) : (Int) → Option ((Int) ⊕ (Int))
 | x32 => (if (decide (x32 < a1)) = true then ((iter (slices_stableCmpFunc_Leaf_s3 a1) ((wrap64 ((2 : Int) * x32)), (0 : Int))).bind fun b46 => (match b46 with | (x43, x44) => (if (decide ((wrap64 (x44 + x32)) < a1)) = true then none else some (.inl (wrap64 (x32 * (2 : Int))))))) else some (.inr x32))

def slices_stableCmpFunc_Leaf_s1 (a1 : Int) (a2 : (Leaf → Leaf → Option Int)) : (Int × Int × (List Leaf)) → Option ((Int × Int × (List Leaf)) ⊕ (Int × Int × (List Leaf)))
 | (x6, x7, x8) => (if (decide (x6 ≤ a1)) = true then ((slices_insertionSortCmpFunc_Leaf x8 x7 x6 a2).bind fun t16 => some (.inl ((wrap64 (x6 + (20 : Int))), x6, t16))) else some (.inr (x6, x7, x8)))

def slices_stableCmpFunc_Leaf (k : Nat) (a0 : (List Leaf)) (a1 : Int) (a2 : (Leaf → Leaf → Option Int)) : Option (List Leaf) :=
 ((iter (slices_stableCmpFunc_Leaf_s1 a1 a2) ((20 : Int), (0 : Int), a0)).bind fun b10 => (match b10 with | (x6, x7, x8) => ((slices_insertionSortCmpFunc_Leaf x8 x7 a1 a2).bind fun t25 => ((iter (slices_stableCmpFunc_Leaf_s2 a1) (20 : Int)).bind fun b34 => (match b34 with | x32 => some t25)))))

theorem slices_stableCmpFunc_Leaf_ok {S : Hp} (k : Nat) (a0 : (List Leaf)) (a1 : Int) (a2 : (Leaf → Leaf → Option Int)) {va0 : Value} {fv2 : Nat} {cp2 : List Value} (fb2 : FnB Tryz.prog fv2) (hc2 : ∀ S₁, S.le S₁ → ∀ (x0₁ : Leaf) (x1₁ : Leaf) (r₁ : Int), a2 x0₁ x1₁ = some r₁ → Fn Tryz.prog fv2 ([aggV [sL x0₁.label, sL x0₁.value, sV (.int .i64 x0₁.at_)], aggV [sL x1₁.label, sL x1₁.value, sV (.int .i64 x1₁.at_)]] ++ cp2) S₁ (fun v S' => v = .int .i64 r₁)) {r : (List Leaf)} (h : slices_stableCmpFunc_Leaf k a0 a1 a2 = some r) : FnP Tryz.prog 180 [va0, .int .i64 a1, fnV fv2 cp2] S (Rw va0 a0) (fun v S' A' => v = .tuple #[] ∧ A' = Rw va0 r) := by
 unfold slices_stableCmpFunc_Leaf at h
 refine Fn.ofP [] 63 Tryz.func180 rfl Tryz.ntmps180 (Nat.le_of_ble_eq_true rfl) rfl (fun o F Q hQ hN hret => ?_)
 refine sr (fun _ hK1 => ?_)
 refine an ?_
 refine nt hK1 ?_
 refine sr (fun _ hK2 => ?_)
 refine mv ?_
 refine an ?_
 refine an ?_
 refine nt hK2 ?_
 refine G.seq (fun _ hK3 => ?_)
 refine G.block ?_
 obtain ⟨b10, wb10, ho11⟩ := bind_some' h
 refine G.keep [8, 7, 6, 0, 1, 2] rfl ?_
 refine G.loopK (slices_stableCmpFunc_Leaf_s1 a1 a2) (fun s₀ E' S' L' => match s₀ with | (x6, x7, x8) => S.le S' ∧ E' = [(8, .int .i64 x6), (7, .int .i64 x7), (6, .int .i64 (20 : Int)), (0, va0), (1, .int .i64 a1), (2, fnV fv2 cp2)] ∧ Rw va0 x8 :: F = L') b10 0 (fun E₀ S₀ L₀ => ∃ (x6 : Int) (x7 : Int) (x8 : (List Leaf)), S.le S₀ ∧ b10 = (x6, x7, x8) ∧ E₀ = [(7, .int .i64 x7), (6, .int .i64 (20 : Int)), (0, va0), (1, .int .i64 a1), (2, fnV fv2 cp2)] ∧ Rw va0 x8 :: F = L₀) wb10 ?_ ?_ ?_
 ·rintro _ S22 _ ⟨x6, x7, x8, e23, rfl, rfl, rfl⟩
  have h := ho11; clear ho11
  try dsimp only at h
  refine GX.exit_block ?_
  refine GX.then hK3 ?_
  refine sr (fun _ hK24 => ?_)
  refine mv ?_
  refine mv ?_
  refine mv ?_
  refine mv ?_
  obtain ⟨t25, wt25, h⟩ := bind_some' h
  refine st (OS.callP 0 _ (by decide) rfl fb199 rfl (slices_insertionSortCmpFunc_Leaf_ok (fv3 := fv2) (cp3 := cp2) x8 x7 a1 a2 fb2 (fun S₁ e₁ => hc2 S₁ (l2 e23 e₁)) wt25) (fun v26 S27 _ e28 z29 => ?_))
  obtain ⟨rfl, rfl⟩ := z29
  refine nt hK24 ?_
  refine G.block ?_
  obtain ⟨b34, wb34, ho35⟩ := bind_some' h
  refine G.keep [6, 0, 1, 2] rfl ?_
  refine G.loopK (slices_stableCmpFunc_Leaf_s2 a1) (fun s₀ E' S' L' => match s₀ with | x32 => S27.le S' ∧ E' = [(6, .int .i64 x32), (0, va0), (1, .int .i64 a1), (2, fnV fv2 cp2)] ∧ Rw va0 t25 :: F = L') b34 2 (fun E₀ S₀ L₀ => ∃ (x32 : Int), S27.le S₀ ∧ b34 = x32 ∧ E₀ = [] ∧ Rw va0 t25 :: F = L₀) wb34 ?_ ?_ ?_
  ·rintro _ S64 _ ⟨x32, e65, rfl, rfl, rfl⟩
   have h := ho35; clear ho35
   try dsimp only at h
   refine GX.exit_block ?_
   refine GX.fall hN ?_
   obtain rfl := Option.some.inj h
   exact hret _ _ _ _ _ 0 (l2 e23 (l2 e28 e65)) .nil ⟨rfl, rfl⟩ rfl
  ·exact ⟨Hp.le_refl _, rfl, rfl⟩
  rintro x32 _ S30 _ ⟨e31, rfl, rfl⟩ out2 h hf2 K2 hK2 hx33
  rw [slices_stableCmpFunc_Leaf_s2] at h
  refine G.seq (fun _ hK36 => ?_)
  refine sr (fun _ hK37 => ?_)
  refine mv ?_
  refine mv ?_
  refine vl (Y.ltI rfl rfl) ?_
  refine nt hK37 ?_
  refine G.cond _ rfl (fun c38 => ?_) (fun c38 => ?_)
  ·replace h := ite_t c38 h
   refine sk hK36 ?_
   refine G.block ?_
   refine sr (fun _ hK39 => ?_)
   refine mv ?_
   refine vl (Y.mulI rfl rfl) ?_
   refine an ?_
   refine an ?_
   refine nt hK39 ?_
   refine G.seq (fun _ hK40 => ?_)
   refine G.block ?_
   obtain ⟨b46, wb46, ho47⟩ := bind_some' h
   refine G.keep [8, 7, 6, 0, 1, 2] rfl ?_
   refine G.loopK (slices_stableCmpFunc_Leaf_s3 a1) (fun s₀ E' S' L' => match s₀ with | (x43, x44) => S30.le S' ∧ E' = [(8, .int .i64 x43), (7, .int .i64 x44), (6, .int .i64 x32), (0, va0), (1, .int .i64 a1), (2, fnV fv2 cp2)] ∧ Rw va0 t25 :: F = L') b46 4 (fun E₀ S₀ L₀ => ∃ (x43 : Int) (x44 : Int), S30.le S₀ ∧ b46 = (x43, x44) ∧ E₀ = [(7, .int .i64 x44), (6, .int .i64 x32), (0, va0), (1, .int .i64 a1), (2, fnV fv2 cp2)] ∧ Rw va0 t25 :: F = L₀) wb46 ?_ ?_ ?_
   ·rintro _ S55 _ ⟨x43, x44, e56, rfl, rfl, rfl⟩
    have h := ho47; clear ho47
    try dsimp only at h
    refine GX.exit_block ?_
    refine GX.then hK40 ?_
    refine G.seq (fun _ hK57 => ?_)
    refine sr (fun _ hK58 => ?_)
    refine mv ?_
    refine mv ?_
    refine vl (Y.addI rfl rfl) ?_
    refine an ?_
    refine nt hK58 ?_
    refine sr (fun _ hK59 => ?_)
    refine mv ?_
    refine mv ?_
    refine vl (Y.ltI rfl rfl) ?_
    refine nt hK59 ?_
    refine G.cond _ rfl (fun c60 => ?_) (fun c60 => ?_)
    ·replace h := ite_t c60 h
     refine G.region ?_
     refine mv ?_
     refine mv ?_
     refine mv ?_
     refine mv ?_
     refine mv ?_
     exact absurd h (by simp)
    replace h := ite_f c60 h
    refine sk hK57 ?_
    refine G.region ?_
    refine mv ?_
    refine vl (Y.mulI rfl rfl) ?_
    refine an ?_
    refine GO.nil ?_
    refine GX.normal_block ?_
    obtain rfl := Option.some.inj h
    refine GX.keep [6, 0, 1, 2] rfl ?_
    exact hK2 _ _ _ _ rfl ⟨(l2 e31 e56), rfl, rfl⟩
   ·exact ⟨Hp.le_refl _, rfl, rfl⟩
   rintro ⟨x43, x44⟩ _ S41 _ ⟨e42, rfl, rfl⟩ out3 h hf3 K3 hK3 hx45
   rw [slices_stableCmpFunc_Leaf_s3] at h
   refine G.seq (fun _ hK48 => ?_)
   refine sr (fun _ hK49 => ?_)
   refine mv ?_
   refine mv ?_
   refine vl (Y.leI rfl rfl) ?_
   refine nt hK49 ?_
   refine G.cond _ rfl (fun c50 => ?_) (fun c50 => ?_)
   ·replace h := ite_t c50 h
    refine sk hK48 ?_
    refine G.block ?_
    refine sr (fun _ hK51 => ?_)
    refine mv ?_
    refine mv ?_
    refine mv ?_
    refine mv ?_
    refine vl (Y.addI rfl rfl) ?_
    refine mv ?_
    refine mv ?_
    exact absurd h (by simp)
   replace h := ite_f c50 h
   refine G.exit ?_
   refine GX.exit_then ?_
   obtain rfl := Option.some.inj h
   refine GX.keep [7, 6, 0, 1, 2] rfl ?_
   exact hx45 _ _ _ ⟨_, _, e42, (hf3 _ rfl).symm, rfl, rfl⟩
  replace h := ite_f c38 h
  refine G.exit ?_
  refine GX.exit_then ?_
  obtain rfl := Option.some.inj h
  refine GX.keep [] rfl ?_
  exact hx33 _ _ _ ⟨_, e31, (hf2 _ rfl).symm, rfl, rfl⟩
 ·exact ⟨Hp.le_refl _, rfl, rfl⟩
 rintro ⟨x6, x7, x8⟩ _ S4 _ ⟨e5, rfl, rfl⟩ out1 h hf1 K1 hK1 hx9
 rw [slices_stableCmpFunc_Leaf_s1] at h
 refine G.seq (fun _ hK12 => ?_)
 refine sr (fun _ hK13 => ?_)
 refine mv ?_
 refine mv ?_
 refine vl (Y.leI rfl rfl) ?_
 refine nt hK13 ?_
 refine G.cond _ rfl (fun c14 => ?_) (fun c14 => ?_)
 ·replace h := ite_t c14 h
  refine sk hK12 ?_
  refine G.block ?_
  refine sr (fun _ hK15 => ?_)
  refine mv ?_
  refine mv ?_
  refine mv ?_
  refine mv ?_
  obtain ⟨t16, wt16, h⟩ := bind_some' h
  refine st (OS.callP 0 _ (by decide) rfl fb199 rfl (slices_insertionSortCmpFunc_Leaf_ok (fv3 := fv2) (cp3 := cp2) x8 x7 x6 a2 fb2 (fun S₁ e₁ => hc2 S₁ (l2 e5 e₁)) wt16) (fun v17 S18 _ e19 z20 => ?_))
  obtain ⟨rfl, rfl⟩ := z20
  refine nt hK15 ?_
  refine sr (fun _ hK21 => ?_)
  refine mv ?_
  refine an ?_
  refine nt hK21 ?_
  refine G.region ?_
  refine mv ?_
  refine mv ?_
  refine vl (Y.addI rfl rfl) ?_
  refine an ?_
  refine GO.nil ?_
  refine GX.normal_block ?_
  obtain rfl := Option.some.inj h
  refine GX.keep [8, 7, 6, 0, 1, 2] rfl ?_
  exact hK1 _ _ _ _ rfl ⟨(l2 e5 e19), rfl, rfl⟩
 replace h := ite_f c14 h
 refine G.exit ?_
 refine GX.exit_then ?_
 obtain rfl := Option.some.inj h
 refine GX.keep [7, 6, 0, 1, 2] rfl ?_
 exact hx9 _ _ _ ⟨_, _, _, e5, (hf1 _ rfl).symm, rfl, rfl⟩

/- slices.SortStableFunc[[]chirograph/node.Leaf,chirograph/node.Leaf] -/
def slices_SortStableFunc_Leaf (k : Nat) (a0 : (List Leaf)) (a1 : (Leaf → Leaf → Option Int)) : Option (List Leaf) :=
 ((slices_stableCmpFunc_Leaf k a0 (lenI a0) a1).bind fun t1 => some t1)

theorem slices_SortStableFunc_Leaf_ok {S : Hp} (k : Nat) (a0 : (List Leaf)) (a1 : (Leaf → Leaf → Option Int)) {va0 : Value} {fv1 : Nat} {cp1 : List Value} (fb1 : FnB Tryz.prog fv1) (hc1 : ∀ S₁, S.le S₁ → ∀ (x0₁ : Leaf) (x1₁ : Leaf) (r₁ : Int), a1 x0₁ x1₁ = some r₁ → Fn Tryz.prog fv1 ([aggV [sL x0₁.label, sL x0₁.value, sV (.int .i64 x0₁.at_)], aggV [sL x1₁.label, sL x1₁.value, sV (.int .i64 x1₁.at_)]] ++ cp1) S₁ (fun v S' => v = .int .i64 r₁)) {r : (List Leaf)} (h : slices_SortStableFunc_Leaf k a0 a1 = some r) : FnP Tryz.prog 119 [va0, fnV fv1 cp1] S (Rw va0 a0) (fun v S' A' => v = .tuple #[] ∧ A' = Rw va0 r) := by
 unfold slices_SortStableFunc_Leaf at h
 refine Fn.ofP [] 9 Tryz.func119 rfl Tryz.ntmps119 (Nat.le_of_ble_eq_true rfl) rfl (fun o F Q hQ hN hret => ?_)
 refine G.region ?_
 refine mv ?_
 refine mv ?_
 refine vl (Y.lenR 0  rfl rfl slc35) ?_
 refine mv ?_
 obtain ⟨t1, wt1, h⟩ := bind_some' h
 refine st (OS.callP 0 _ (by decide) rfl fb180 rfl (slices_stableCmpFunc_Leaf_ok k (fv2 := fv1) (cp2 := cp1) a0 (lenI a0) a1 fb1 (fun S₁ e₁ => hc1 S₁ (l2 l0 e₁)) wt1) (fun v2 S3 _ e4 z5 => ?_))
 obtain ⟨rfl, rfl⟩ := z5
 refine GO.nil ?_
 refine GX.fall hN ?_
 obtain rfl := Option.some.inj h
 exact hret _ _ _ _ _ 0 e4 .nil ⟨rfl, rfl⟩ rfl

/- slices.Clone[[]chirograph/node.Item,chirograph/node.Item] -/
def slices_Clone_Item (a0 : List Item) : Option (List Item) := (req (List.length ([] : List Item) + List.length a0 ≤ LIM)).bind fun _ => some ([] ++ a0)
theorem slices_Clone_Item_ok {S : Hp} (a0 : List Item) {va0 : Value} (qa0 : Sls S va0 a0) {r : List Item} (h : slices_Clone_Item a0 = some r) : FnN Tryz.prog 182 [va0] S (fun v S' A' => A' = Rw v r) := by
  unfold slices_Clone_Item at h
  obtain ⟨g, h⟩ := req_bind h
  obtain rfl := Option.some.inj h
  have hq := qa0
  obtain ⟨a, cap, rfl, hc, hx⟩ := hq
  refine Fn.ofN [.tmp 2] 8 Tryz.func182 rfl Tryz.ntmps182 (Nat.le_of_ble_eq_true rfl) rfl (fun o F Q hQ hN hret => ?_)
  refine G.seq (fun K1 hK1 => ?_)
  refine G.region ?_
  refine GO.val _ (by decide) (Y.assign rfl) ?_
  refine GO.nil ?_
  refine GX.then hK1 ?_
  refine G.seq (fun K2 hK2 => ?_)
  refine G.seq (fun K3 hK3 => ?_)
  refine G.region ?_
  refine GO.val _ (by decide) (Y.move rfl) ?_
  refine GO.val _ (by decide) (Y.eqNil rfl rfl slc32) ?_
  refine GO.nil ?_
  refine GX.then hK3 ?_
  refine G.cond _ rfl (fun c => ?_) (fun c => ?_)
  · have ha : a0 = [] := by
      rcases hx with hx | ⟨b, off, rfl, _⟩
      · exact hx
      · simp at c
    subst ha
    refine G.seq (fun K4 hK4 => ?_)
    refine G.region ?_
    refine GO.nilRow (α := Item) ?_
    refine GO.val _ (by decide) (Y.assign rfl) ?_
    refine GO.nil ?_
    refine GX.then hK4 ?_
    refine G.ret ?_
    exact hret _ _ _ _ _ 0 (Hp.le_refl _) (.cons (.tmp rfl) .nil) rfl rfl
  · refine G.skip ?_
    refine GX.then hK2 ?_
    refine G.seq (fun K5 hK5 => ?_)
    refine G.region ?_
    refine GO.step (OS.buildSliceE ([] : List Item) (by decide) el32 rfl (Nat.le_of_ble_eq_true rfl) rfl ⟨rfl, rfl⟩ (fun v5 => ?_))
    refine GO.val _ (by decide) (Y.move rfl) ?_
    refine GO.step (OS.append (xs := ([] : List Item)) (ys := a0) 0 (by decide) rfl rfl rfl qa0.src el32 src32 g (fun v6 => ?_))
    refine GO.val _ (by decide) (Y.assign rfl) ?_
    refine GO.nil ?_
    refine GX.then hK5 ?_
    refine G.ret ?_
    exact hret _ _ _ _ _ 0 (Hp.le_refl _) (.cons (.tmp rfl) .nil) rfl rfl

/- slices.insertionSortCmpFunc[chirograph/node.Item] -/
def slices_insertionSortCmpFunc_Item_s2 (a1 : Int) (a3 : (Item → Item → Option Int)) : (Int × (List Item)) → Option ((Int × (List Item)) ⊕ (Int × (List Item)))
 | (x16, x17) => ((if (decide (a1 < x16)) = true then ((req ((0 : Int) ≤ x16 ∧ x16 < lenI x17)).bind fun _ => ((req ((0 : Int) ≤ (wrap64 (x16 - (1 : Int))) ∧ (wrap64 (x16 - (1 : Int))) < lenI x17)).bind fun _ => ((a3 (getI x17 x16) (getI x17 (wrap64 (x16 - (1 : Int))))).bind fun t34 => some (decide (t34 < (0 : Int)))))) else some false).bind fun b24 => (if b24 = true then ((req ((0 : Int) ≤ (wrap64 (x16 - (1 : Int))) ∧ (wrap64 (x16 - (1 : Int))) < lenI x17)).bind fun _ => ((req ((0 : Int) ≤ x16 ∧ x16 < lenI x17)).bind fun _ => ((req ((0 : Int) ≤ x16 ∧ x16 < lenI x17)).bind fun _ => ((req ((0 : Int) ≤ (wrap64 (x16 - (1 : Int))) ∧ (wrap64 (x16 - (1 : Int))) < lenI (x17.set (Int.toNat x16) (getI x17 (wrap64 (x16 - (1 : Int))))))).bind fun _ => some (.inl ((wrap64 (x16 - (1 : Int))), ((x17.set (Int.toNat x16) (getI x17 (wrap64 (x16 - (1 : Int))))).set (Int.toNat (wrap64 (x16 - (1 : Int)))) (getI x17 x16)))))))) else some (.inr (x16, x17))))

def slices_insertionSortCmpFunc_Item_s1 (a1 : Int) (a2 : Int) (a3 : (Item → Item → Option Int)) : (Int × (List Item)) → Option ((Int × (List Item)) ⊕ (Int × (List Item)))
 | (x4, x5) => (if (decide (x4 < a2)) = true then ((iter (slices_insertionSortCmpFunc_Item_s2 a1 a3) (x4, x5)).bind fun b19 => (match b19 with | (x16, x17) => some (.inl ((wrap64 (x4 + (1 : Int))), x17)))) else some (.inr (x4, x5)))

def slices_insertionSortCmpFunc_Item  (a0 : (List Item)) (a1 : Int) (a2 : Int) (a3 : (Item → Item → Option Int)) : Option (List Item) :=
 ((iter (slices_insertionSortCmpFunc_Item_s1 a1 a2 a3) ((wrap64 (a1 + (1 : Int))), a0)).bind fun b7 => (match b7 with | (x4, x5) => some x5))

theorem slices_insertionSortCmpFunc_Item_ok {S : Hp} (a0 : (List Item)) (a1 : Int) (a2 : Int) (a3 : (Item → Item → Option Int)) {va0 : Value} {fv3 : Nat} {cp3 : List Value} (fb3 : FnB Tryz.prog fv3) (hc3 : ∀ S₁, S.le S₁ → ∀ (x0₁ : Item) (x1₁ : Item) (r₁ : Int), a3 x0₁ x1₁ = some r₁ → Fn Tryz.prog fv3 ([aggV [sV (.int .i64 x0₁.len), sL x0₁.bits, sL x0₁.sum, sV (.int .i64 x0₁.at_)], aggV [sV (.int .i64 x1₁.len), sL x1₁.bits, sL x1₁.sum, sV (.int .i64 x1₁.at_)]] ++ cp3) S₁ (fun v S' => v = .int .i64 r₁)) {r : (List Item)} (h : slices_insertionSortCmpFunc_Item a0 a1 a2 a3 = some r) : FnP Tryz.prog 207 [va0, .int .i64 a1, .int .i64 a2, fnV fv3 cp3] S (Rw va0 a0) (fun v S' A' => v = .tuple #[] ∧ A' = Rw va0 r) := by
 unfold slices_insertionSortCmpFunc_Item at h
 refine Fn.ofP [] 53 Tryz.func207 rfl Tryz.ntmps207 (Nat.le_of_ble_eq_true rfl) rfl (fun o F Q hQ hN hret => ?_)
 refine sr (fun _ hK1 => ?_)
 refine mv ?_
 refine vl (Y.addI rfl rfl) ?_
 refine an ?_
 refine nt hK1 ?_
 refine G.block ?_
 obtain ⟨b7, wb7, ho8⟩ := bind_some' h
 refine G.keep [8, 0, 1, 2, 3] rfl ?_
 refine G.loopK (slices_insertionSortCmpFunc_Item_s1 a1 a2 a3) (fun s₀ E' S' L' => match s₀ with | (x4, x5) => S.le S' ∧ E' = [(8, .int .i64 x4), (0, va0), (1, .int .i64 a1), (2, .int .i64 a2), (3, fnV fv3 cp3)] ∧ Rw va0 x5 :: F = L') b7 0 (fun E₀ S₀ L₀ => ∃ (x4 : Int) (x5 : (List Item)), S.le S₀ ∧ b7 = (x4, x5) ∧ E₀ = [] ∧ Rw va0 x5 :: F = L₀) wb7 ?_ ?_ ?_
 ·rintro _ S65 _ ⟨x4, x5, e66, rfl, rfl, rfl⟩
  have h := ho8; clear ho8
  try dsimp only at h
  refine GX.exit_block ?_
  refine GX.fall hN ?_
  obtain rfl := Option.some.inj h
  exact hret _ _ _ _ _ 0 e66 .nil ⟨rfl, rfl⟩ rfl
 ·exact ⟨Hp.le_refl _, rfl, rfl⟩
 rintro ⟨x4, x5⟩ _ S2 _ ⟨e3, rfl, rfl⟩ out1 h hf1 K1 hK1 hx6
 rw [slices_insertionSortCmpFunc_Item_s1] at h
 refine G.seq (fun _ hK9 => ?_)
 refine sr (fun _ hK10 => ?_)
 refine mv ?_
 refine mv ?_
 refine vl (Y.ltI rfl rfl) ?_
 refine nt hK10 ?_
 refine G.cond _ rfl (fun c11 => ?_) (fun c11 => ?_)
 ·replace h := ite_t c11 h
  refine sk hK9 ?_
  refine G.seq (fun _ hK12 => ?_)
  refine G.block ?_
  refine sr (fun _ hK13 => ?_)
  refine mv ?_
  refine an ?_
  refine nt hK13 ?_
  refine G.block ?_
  obtain ⟨b19, wb19, ho20⟩ := bind_some' h
  refine G.keep [9, 8, 0, 1, 2, 3] rfl ?_
  refine G.loopK (slices_insertionSortCmpFunc_Item_s2 a1 a3) (fun s₀ E' S' L' => match s₀ with | (x16, x17) => S2.le S' ∧ E' = [(9, .int .i64 x16), (8, .int .i64 x4), (0, va0), (1, .int .i64 a1), (2, .int .i64 a2), (3, fnV fv3 cp3)] ∧ Rw va0 x17 :: F = L') b19 2 (fun E₀ S₀ L₀ => ∃ (x16 : Int) (x17 : (List Item)), S2.le S₀ ∧ b19 = (x16, x17) ∧ E₀ = [(8, .int .i64 x4), (0, va0), (1, .int .i64 a1), (2, .int .i64 a2), (3, fnV fv3 cp3)] ∧ Rw va0 x17 :: F = L₀) wb19 ?_ ?_ ?_
  ·rintro _ S63 _ ⟨x16, x17, e64, rfl, rfl, rfl⟩
   have h := ho20; clear ho20
   try dsimp only at h
   refine GX.exit_block ?_
   refine GX.normal_block ?_
   refine GX.then hK12 ?_
   refine G.region ?_
   refine mv ?_
   refine vl (Y.addI rfl rfl) ?_
   refine an ?_
   refine GO.nil ?_
   obtain rfl := Option.some.inj h
   refine GX.keep [8, 0, 1, 2, 3] rfl ?_
   exact hK1 _ _ _ _ rfl ⟨(l2 e3 e64), rfl, rfl⟩
  ·exact ⟨Hp.le_refl _, rfl, rfl⟩
  rintro ⟨x16, x17⟩ _ S14 _ ⟨e15, rfl, rfl⟩ out2 h hf2 K2 hK2 hx18
  rw [slices_insertionSortCmpFunc_Item_s2] at h
  refine G.seq (fun _ hK21 => ?_)
  refine G.seq (fun _ hK22 => ?_)
  obtain ⟨b24, wb24, h⟩ := bind_some' h
  refine G.cut (fun E₀ S₀ L₀ => S14.le S₀ ∧ E₀ = [(34, .bool b24), (9, .int .i64 x16), (8, .int .i64 x4), (0, va0), (1, .int .i64 a1), (2, .int .i64 a2), (3, fnV fv3 cp3)] ∧ Rw va0 x17 :: F = L₀) (fun K23 hK23 => ?_) ?_
  ·replace h := wb24
   rcases Bool.eq_false_or_eq_true (decide (a1 < x16)) with c25 | c25
   ·replace h := ite_t c25 h
    obtain ⟨g26, h⟩ := req_bind h
    refine G.rowAt 0 rfl g26 (fun ad27 p28 z29 => ?_)
    obtain ⟨g30, h⟩ := req_bind h
    refine G.rowAt 0 rfl g30 (fun ad31 p32 z33 => ?_)
    obtain ⟨t34, wt34, h⟩ := bind_some' h
    obtain rfl := Option.some.inj h
    refine G.drawN 17 mixed (by kernel_rfl) ?_
    refine tn 0 rfl hQ (fun _ _ _ => Y.move rfl) ?_
    refine tn 1 rfl hQ (fun _ _ _ => Y.move rfl) ?_
    refine tn 2 rfl hQ (fun _ _ _ => Y.gtI rfl rfl) ?_
    refine tn 3 rfl hQ (fun _ _ _ => Y.move rfl) ?_
    refine tw 4 rfl .refl hQ (gi 21 c25) (fun _ _ _ => Y.move rfl) ?_
    refine tw 5 rfl .refl hQ (gi 21 c25) (fun _ _ _ => Y.move rfl) ?_
    refine tw 6 rfl .refl hQ (gi 21 c25) (fun _ _ _ => Y.move rfl) ?_
    refine tw 7 rfl .refl hQ (gi 21 c25) (fun _ _ _ => Y.idxR rfl z29 rfl slc32 g26) ?_
    refine tw 8 rfl .refl hQ (gi 21 c25) (fun S₀ X₀ e₀ => Y.loadRow (X₀.length + 0)  x16 0 4 [sV (.int .i64 ((getI x17 x16).len)), sL ((getI x17 x16).bits), sL ((getI x17 x16).sum), sV (.int .i64 ((getI x17 x16).at_))] rfl (Lk rfl) z29 g26 rfl rfl row29 (by kernel_rfl)) ?_
    refine tw 9 rfl .refl hQ (gi 21 c25) (fun _ _ _ => Y.move rfl) ?_
    refine tw 10 rfl .refl hQ (gi 21 c25) (fun _ _ _ => Y.move rfl) ?_
    refine tw 11 rfl .refl hQ (gi 21 c25) (fun _ _ _ => Y.subI rfl rfl) ?_
    refine tw 12 rfl .refl hQ (gi 21 c25) (fun _ _ _ => Y.idxR rfl z33 rfl slc32 g30) ?_
    refine tw 13 rfl .refl hQ (gi 21 c25) (fun S₀ X₀ e₀ => Y.loadRow (X₀.length + 0)  (wrap64 (x16 - (1 : Int))) 0 4 [sV (.int .i64 ((getI x17 (wrap64 (x16 - (1 : Int)))).len)), sL ((getI x17 (wrap64 (x16 - (1 : Int)))).bits), sL ((getI x17 (wrap64 (x16 - (1 : Int)))).sum), sV (.int .i64 ((getI x17 (wrap64 (x16 - (1 : Int)))).at_))] rfl (Lk rfl) z33 g30 rfl rfl row29 (by kernel_rfl)) ?_
    refine g1 14 ?_
    refine GD1.on rfl (gi 21 c25) (by kernel_rfl) (OS.callV _ (by decide) rfl rfl fb3 (hc3 _ (l2 e3 e15) (getI x17 x16) (getI x17 (wrap64 (x16 - (1 : Int)))) _ wt34) (fun v39 S40 e41 z42 => ⟨⟨[], .refl, e41⟩, ?_⟩))
    obtain rfl := z42
    refine tw 15 rfl .refl hQ (gi 21 c25) (fun _ _ _ => Y.ltI rfl rfl) ?_
    refine tn 16 rfl hQ (fun _ _ _ => Y.pickT _ c25 rfl rfl) ?_
    refine dn ?_
    refine GX.keep [34, 9, 8, 0, 1, 2, 3] rfl ?_
    exact hK23 _ _ _ ⟨e41, rfl, rfl⟩
   replace h := ite_f c25 h
   obtain rfl := Option.some.inj h
   refine G.drawN 17 mixed (by kernel_rfl) ?_
   refine tn 0 rfl hQ (fun _ _ _ => Y.move rfl) ?_
   refine tn 1 rfl hQ (fun _ _ _ => Y.move rfl) ?_
   refine tn 2 rfl hQ (fun _ _ _ => Y.gtI rfl rfl) ?_
   refine tn 3 rfl hQ (fun _ _ _ => Y.move rfl) ?_
   refine tf 4 rfl .refl hQ (gn 21 c25) ?_
   refine tf 5 rfl .refl hQ (gn 21 c25) ?_
   refine tf 6 rfl .refl hQ (gn 21 c25) ?_
   refine tf 7 rfl .refl hQ (gn 21 c25) ?_
   refine tf 8 rfl .refl hQ (gn 21 c25) ?_
   refine tf 9 rfl .refl hQ (gn 21 c25) ?_
   refine tf 10 rfl .refl hQ (gn 21 c25) ?_
   refine tf 11 rfl .refl hQ (gn 21 c25) ?_
   refine tf 12 rfl .refl hQ (gn 21 c25) ?_
   refine tf 13 rfl .refl hQ (gn 21 c25) ?_
   refine tf 14 rfl .refl hQ (gn 21 c25) ?_
   refine tf 15 rfl .refl hQ (gn 21 c25) ?_
   refine tn 16 rfl hQ (fun _ _ _ => Y.pickF _ c25 rfl rfl) ?_
   refine dn ?_
   refine GX.keep [34, 9, 8, 0, 1, 2, 3] rfl ?_
   exact hK23 _ _ _ ⟨l0, rfl, rfl⟩
  rintro _ S43 _ ⟨e44, rfl, rfl⟩
  refine GX.then hK22 ?_
  refine G.cond _ rfl (fun c45 => ?_) (fun c45 => ?_)
  ·replace h := ite_t c45 h
   refine sk hK21 ?_
   refine G.seq (fun _ hK46 => ?_)
   refine G.block ?_
   obtain ⟨g47, h⟩ := req_bind h
   refine G.rowAt 0 rfl g47 (fun ad48 p49 z50 => ?_)
   obtain ⟨g51, h⟩ := req_bind h
   refine G.rowAt 0 rfl g51 (fun ad52 p53 z54 => ?_)
   obtain ⟨g55, h⟩ := req_bind h
   refine G.rowAt 0 rfl g55 (fun ad56 p57 z58 => ?_)
   obtain ⟨g59, h⟩ := req_bind h
   refine G.rowAt 0 rfl (by simpa [lenI] using g59) (fun ad60 p61 z62 => ?_)
   refine G.drawS 15 _ ((fun _ => True) :: F) mixed .refl (by kernel_rfl) ?_
   refine tx 0 rfl (.lose .refl) hQ (fun _ _ _ => Y.move rfl) ?_
   refine tx 1 rfl (.lose .refl) hQ (fun _ _ _ => Y.move rfl) ?_
   refine tx 2 rfl (.lose .refl) hQ (fun _ _ _ => Y.move rfl) ?_
   refine tx 3 rfl (.lose .refl) hQ (fun _ _ _ => Y.move rfl) ?_
   refine tx 4 rfl (.lose .refl) hQ (fun _ _ _ => Y.subI rfl rfl) ?_
   refine tx 5 rfl (.lose .refl) hQ (fun _ _ _ => Y.move rfl) ?_
   refine tx 6 rfl (.lose .refl) hQ (fun _ _ _ => Y.move rfl) ?_
   refine tx 7 rfl (.lose .refl) hQ (fun _ _ _ => Y.subI rfl rfl) ?_
   refine tx 8 rfl (.lose .refl) hQ (fun _ _ _ => Y.idxR rfl z50 rfl slc32 g47) ?_
   refine tk 9 [9, 15] rfl hQ Gd.none (fun S₀ X₀ e₀ => Y.loadRow (X₀.length + 0)  (wrap64 (x16 - (1 : Int))) 0 4 [sV (.int .i64 ((getI x17 (wrap64 (x16 - (1 : Int)))).len)), sL ((getI x17 (wrap64 (x16 - (1 : Int)))).bits), sL ((getI x17 (wrap64 (x16 - (1 : Int)))).sum), sV (.int .i64 ((getI x17 (wrap64 (x16 - (1 : Int)))).at_))] rfl (Lk rfl) z50 g47 rfl rfl row29 (by kernel_rfl)) ?_
   refine tx 10 rfl (.lose .refl) hQ (fun _ _ _ => Y.move rfl) ?_
   refine tx 11 rfl (.lose .refl) hQ (fun _ _ _ => Y.move rfl) ?_
   refine tx 12 rfl (.lose .refl) hQ (fun _ _ _ => Y.idxR rfl z54 rfl slc32 g51) ?_
   refine tk 13 [13, 15] rfl hQ Gd.none (fun S₀ X₀ e₀ => Y.loadRow (X₀.length + 0)  x16 0 4 [sV (.int .i64 ((getI x17 x16).len)), sL ((getI x17 x16).bits), sL ((getI x17 x16).sum), sV (.int .i64 ((getI x17 x16).at_))] rfl (Lk rfl) z54 g51 rfl rfl row29 (by kernel_rfl)) ?_
   refine tx 14 rfl (.lose .refl) hQ (fun _ _ _ => Y.idxR rfl z58 rfl slc32 g55) ?_
   refine g1 15 ?_
   refine n2 rfl (OS.storeRow 0 x16 (getI x17 (wrap64 (x16 - (1 : Int)))) rfl rfl (aggV_cells _) rfl z58 g55 rfl size29 ⟨⟨[], (.lose .refl), l0⟩, ?_⟩)
   refine tx 16 rfl (.lose .refl) hQ (fun _ _ _ => Y.idxR rfl z62 rfl slc32 (by simpa [lenI] using g59)) ?_
   refine g1 17 ?_
   refine n2 rfl (OS.storeRow 0 (wrap64 (x16 - (1 : Int))) (getI x17 x16) rfl rfl (aggV_cells _) rfl z62 g59 rfl size29 ⟨⟨[], (.lose .refl), l0⟩, ?_⟩)
   refine dn ?_
   refine GX.normal_block ?_
   refine GX.then hK46 ?_
   refine G.region ?_
   refine mv ?_
   refine vl (Y.subI rfl rfl) ?_
   refine an ?_
   refine GO.nil ?_
   obtain rfl := Option.some.inj h
   refine GX.keep [9, 8, 0, 1, 2, 3] rfl ?_
   exact hK2 _ _ _ _ rfl ⟨(l2 e15 e44), rfl, rfl⟩
  replace h := ite_f c45 h
  refine G.exit ?_
  refine GX.exit_then ?_
  obtain rfl := Option.some.inj h
  refine GX.keep [8, 0, 1, 2, 3] rfl ?_
  exact hx18 _ _ _ ⟨_, _, (l2 e15 e44), (hf2 _ rfl).symm, rfl, rfl⟩
 replace h := ite_f c11 h
 refine G.exit ?_
 refine GX.exit_then ?_
 obtain rfl := Option.some.inj h
 refine GX.keep [] rfl ?_
 exact hx6 _ _ _ ⟨_, _, e3, (hf1 _ rfl).symm, rfl, rfl⟩

/- slices.stableCmpFunc[chirograph/node.Item] -/
def slices_stableCmpFunc_Item_s3 (a1 : Int) : (Int × Int) → Option ((Int × Int) ⊕ (Int × Int))
 | (x43, x44) => (if (decide (x43 ≤ a1)) = true then none else some (.inr (x43, x44)))

def slices_stableCmpFunc_Item_s2 (a1 : Int) : (Int) → Option ((Int) ⊕ (Int))
 | x32 => (if (decide (x32 < a1)) = true then ((iter (slices_stableCmpFunc_Item_s3 a1) ((wrap64 ((2 : Int) * x32)), (0 : Int))).bind fun b46 => (match b46 with | (x43, x44) => (if (decide ((wrap64 (x44 + x32)) < a1)) = true then none else some (.inl (wrap64 (x32 * (2 : Int))))))) else some (.inr x32))

def slices_stableCmpFunc_Item_s1 (a1 : Int) (a2 : (Item → Item → Option Int)) : (Int × Int × (List Item)) → Option ((Int × Int × (List Item)) ⊕ (Int × Int × (List Item)))
 | (x6, x7, x8) => (if (decide (x6 ≤ a1)) = true then ((slices_insertionSortCmpFunc_Item x8 x7 x6 a2).bind fun t16 => some (.inl ((wrap64 (x6 + (20 : Int))), x6, t16))) else some (.inr (x6, x7, x8)))

def slices_stableCmpFunc_Item (k : Nat) (a0 : (List Item)) (a1 : Int) (a2 : (Item → Item → Option Int)) : Option (List Item) :=
 ((iter (slices_stableCmpFunc_Item_s1 a1 a2) ((20 : Int), (0 : Int), a0)).bind fun b10 => (match b10 with | (x6, x7, x8) => ((slices_insertionSortCmpFunc_Item x8 x7 a1 a2).bind fun t25 => ((iter (slices_stableCmpFunc_Item_s2 a1) (20 : Int)).bind fun b34 => (match b34 with | x32 => some t25)))))

theorem slices_stableCmpFunc_Item_ok {S : Hp} (k : Nat) (a0 : (List Item)) (a1 : Int) (a2 : (Item → Item → Option Int)) {va0 : Value} {fv2 : Nat} {cp2 : List Value} (fb2 : FnB Tryz.prog fv2) (hc2 : ∀ S₁, S.le S₁ → ∀ (x0₁ : Item) (x1₁ : Item) (r₁ : Int), a2 x0₁ x1₁ = some r₁ → Fn Tryz.prog fv2 ([aggV [sV (.int .i64 x0₁.len), sL x0₁.bits, sL x0₁.sum, sV (.int .i64 x0₁.at_)], aggV [sV (.int .i64 x1₁.len), sL x1₁.bits, sL x1₁.sum, sV (.int .i64 x1₁.at_)]] ++ cp2) S₁ (fun v S' => v = .int .i64 r₁)) {r : (List Item)} (h : slices_stableCmpFunc_Item k a0 a1 a2 = some r) : FnP Tryz.prog 202 [va0, .int .i64 a1, fnV fv2 cp2] S (Rw va0 a0) (fun v S' A' => v = .tuple #[] ∧ A' = Rw va0 r) := by
 unfold slices_stableCmpFunc_Item at h
 refine Fn.ofP [] 63 Tryz.func202 rfl Tryz.ntmps202 (Nat.le_of_ble_eq_true rfl) rfl (fun o F Q hQ hN hret => ?_)
 refine sr (fun _ hK1 => ?_)
 refine an ?_
 refine nt hK1 ?_
 refine sr (fun _ hK2 => ?_)
 refine mv ?_
 refine an ?_
 refine an ?_
 refine nt hK2 ?_
 refine G.seq (fun _ hK3 => ?_)
 refine G.block ?_
 obtain ⟨b10, wb10, ho11⟩ := bind_some' h
 refine G.keep [8, 7, 6, 0, 1, 2] rfl ?_
 refine G.loopK (slices_stableCmpFunc_Item_s1 a1 a2) (fun s₀ E' S' L' => match s₀ with | (x6, x7, x8) => S.le S' ∧ E' = [(8, .int .i64 x6), (7, .int .i64 x7), (6, .int .i64 (20 : Int)), (0, va0), (1, .int .i64 a1), (2, fnV fv2 cp2)] ∧ Rw va0 x8 :: F = L') b10 0 (fun E₀ S₀ L₀ => ∃ (x6 : Int) (x7 : Int) (x8 : (List Item)), S.le S₀ ∧ b10 = (x6, x7, x8) ∧ E₀ = [(7, .int .i64 x7), (6, .int .i64 (20 : Int)), (0, va0), (1, .int .i64 a1), (2, fnV fv2 cp2)] ∧ Rw va0 x8 :: F = L₀) wb10 ?_ ?_ ?_
 ·rintro _ S22 _ ⟨x6, x7, x8, e23, rfl, rfl, rfl⟩
  have h := ho11; clear ho11
  try dsimp only at h
  refine GX.exit_block ?_
  refine GX.then hK3 ?_
  refine sr (fun _ hK24 => ?_)
  refine mv ?_
  refine mv ?_
  refine mv ?_
  refine mv ?_
  obtain ⟨t25, wt25, h⟩ := bind_some' h
  refine st (OS.callP 0 _ (by decide) rfl fb207 rfl (slices_insertionSortCmpFunc_Item_ok (fv3 := fv2) (cp3 := cp2) x8 x7 a1 a2 fb2 (fun S₁ e₁ => hc2 S₁ (l2 e23 e₁)) wt25) (fun v26 S27 _ e28 z29 => ?_))
  obtain ⟨rfl, rfl⟩ := z29
  refine nt hK24 ?_
  refine G.block ?_
  obtain ⟨b34, wb34, ho35⟩ := bind_some' h
  refine G.keep [6, 0, 1, 2] rfl ?_
  refine G.loopK (slices_stableCmpFunc_Item_s2 a1) (fun s₀ E' S' L' => match s₀ with | x32 => S27.le S' ∧ E' = [(6, .int .i64 x32), (0, va0), (1, .int .i64 a1), (2, fnV fv2 cp2)] ∧ Rw va0 t25 :: F = L') b34 2 (fun E₀ S₀ L₀ => ∃ (x32 : Int), S27.le S₀ ∧ b34 = x32 ∧ E₀ = [] ∧ Rw va0 t25 :: F = L₀) wb34 ?_ ?_ ?_
  ·rintro _ S64 _ ⟨x32, e65, rfl, rfl, rfl⟩
   have h := ho35; clear ho35
   try dsimp only at h
   refine GX.exit_block ?_
   refine GX.fall hN ?_
   obtain rfl := Option.some.inj h
   exact hret _ _ _ _ _ 0 (l2 e23 (l2 e28 e65)) .nil ⟨rfl, rfl⟩ rfl
  ·exact ⟨Hp.le_refl _, rfl, rfl⟩
  rintro x32 _ S30 _ ⟨e31, rfl, rfl⟩ out2 h hf2 K2 hK2 hx33
  rw [slices_stableCmpFunc_Item_s2] at h
  refine G.seq (fun _ hK36 => ?_)
  refine sr (fun _ hK37 => ?_)
  refine mv ?_
  refine mv ?_
  refine vl (Y.ltI rfl rfl) ?_
  refine nt hK37 ?_
  refine G.cond _ rfl (fun c38 => ?_) (fun c38 => ?_)
  ·replace h := ite_t c38 h
   refine sk hK36 ?_
   refine G.block ?_
   refine sr (fun _ hK39 => ?_)
   refine mv ?_
   refine vl (Y.mulI rfl rfl) ?_
   refine an ?_
   refine an ?_
   refine nt hK39 ?_
   refine G.seq (fun _ hK40 => ?_)
   refine G.block ?_
   obtain ⟨b46, wb46, ho47⟩ := bind_some' h
   refine G.keep [8, 7, 6, 0, 1, 2] rfl ?_
   refine G.loopK (slices_stableCmpFunc_Item_s3 a1) (fun s₀ E' S' L' => match s₀ with | (x43, x44) => S30.le S' ∧ E' = [(8, .int .i64 x43), (7, .int .i64 x44), (6, .int .i64 x32), (0, va0), (1, .int .i64 a1), (2, fnV fv2 cp2)] ∧ Rw va0 t25 :: F = L') b46 4 (fun E₀ S₀ L₀ => ∃ (x43 : Int) (x44 : Int), S30.le S₀ ∧ b46 = (x43, x44) ∧ E₀ = [(7, .int .i64 x44), (6, .int .i64 x32), (0, va0), (1, .int .i64 a1), (2, fnV fv2 cp2)] ∧ Rw va0 t25 :: F = L₀) wb46 ?_ ?_ ?_
   ·rintro _ S55 _ ⟨x43, x44, e56, rfl, rfl, rfl⟩
    have h := ho47; clear ho47
    try dsimp only at h
    refine GX.exit_block ?_
    refine GX.then hK40 ?_
    refine G.seq (fun _ hK57 => ?_)
    refine sr (fun _ hK58 => ?_)
    refine mv ?_
    refine mv ?_
    refine vl (Y.addI rfl rfl) ?_
    refine an ?_
    refine nt hK58 ?_
    refine sr (fun _ hK59 => ?_)
    refine mv ?_
    refine mv ?_
    refine vl (Y.ltI rfl rfl) ?_
    refine nt hK59 ?_
    refine G.cond _ rfl (fun c60 => ?_) (fun c60 => ?_)
    ·replace h := ite_t c60 h
     refine G.region ?_
     refine mv ?_
     refine mv ?_
     refine mv ?_
     refine mv ?_
     refine mv ?_
     exact absurd h (by simp)
    replace h := ite_f c60 h
    refine sk hK57 ?_
    refine G.region ?_
    refine mv ?_
    refine vl (Y.mulI rfl rfl) ?_
    refine an ?_
    refine GO.nil ?_
    refine GX.normal_block ?_
    obtain rfl := Option.some.inj h
    refine GX.keep [6, 0, 1, 2] rfl ?_
    exact hK2 _ _ _ _ rfl ⟨(l2 e31 e56), rfl, rfl⟩
   ·exact ⟨Hp.le_refl _, rfl, rfl⟩
   rintro ⟨x43, x44⟩ _ S41 _ ⟨e42, rfl, rfl⟩ out3 h hf3 K3 hK3 hx45
   rw [slices_stableCmpFunc_Item_s3] at h
   refine G.seq (fun _ hK48 => ?_)
   refine sr (fun _ hK49 => ?_)
   refine mv ?_
   refine mv ?_
   refine vl (Y.leI rfl rfl) ?_
   refine nt hK49 ?_
   refine G.cond _ rfl (fun c50 => ?_) (fun c50 => ?_)
   ·replace h := ite_t c50 h
    refine sk hK48 ?_
    refine G.block ?_
    refine sr (fun _ hK51 => ?_)
    refine mv ?_
    refine mv ?_
    refine mv ?_
    refine mv ?_
    refine vl (Y.addI rfl rfl) ?_
    refine mv ?_
    refine mv ?_
    exact absurd h (by simp)
   replace h := ite_f c50 h
   refine G.exit ?_
   refine GX.exit_then ?_
   obtain rfl := Option.some.inj h
   refine GX.keep [7, 6, 0, 1, 2] rfl ?_
   exact hx45 _ _ _ ⟨_, _, e42, (hf3 _ rfl).symm, rfl, rfl⟩
  replace h := ite_f c38 h
  refine G.exit ?_
  refine GX.exit_then ?_
  obtain rfl := Option.some.inj h
  refine GX.keep [] rfl ?_
  exact hx33 _ _ _ ⟨_, e31, (hf2 _ rfl).symm, rfl, rfl⟩
 ·exact ⟨Hp.le_refl _, rfl, rfl⟩
 rintro ⟨x6, x7, x8⟩ _ S4 _ ⟨e5, rfl, rfl⟩ out1 h hf1 K1 hK1 hx9
 rw [slices_stableCmpFunc_Item_s1] at h
 refine G.seq (fun _ hK12 => ?_)
 refine sr (fun _ hK13 => ?_)
 refine mv ?_
 refine mv ?_
 refine vl (Y.leI rfl rfl) ?_
 refine nt hK13 ?_
 refine G.cond _ rfl (fun c14 => ?_) (fun c14 => ?_)
 ·replace h := ite_t c14 h
  refine sk hK12 ?_
  refine G.block ?_
  refine sr (fun _ hK15 => ?_)
  refine mv ?_
  refine mv ?_
  refine mv ?_
  refine mv ?_
  obtain ⟨t16, wt16, h⟩ := bind_some' h
  refine st (OS.callP 0 _ (by decide) rfl fb207 rfl (slices_insertionSortCmpFunc_Item_ok (fv3 := fv2) (cp3 := cp2) x8 x7 x6 a2 fb2 (fun S₁ e₁ => hc2 S₁ (l2 e5 e₁)) wt16) (fun v17 S18 _ e19 z20 => ?_))
  obtain ⟨rfl, rfl⟩ := z20
  refine nt hK15 ?_
  refine sr (fun _ hK21 => ?_)
  refine mv ?_
  refine an ?_
  refine nt hK21 ?_
  refine G.region ?_
  refine mv ?_
  refine mv ?_
  refine vl (Y.addI rfl rfl) ?_
  refine an ?_
  refine GO.nil ?_
  refine GX.normal_block ?_
  obtain rfl := Option.some.inj h
  refine GX.keep [8, 7, 6, 0, 1, 2] rfl ?_
  exact hK1 _ _ _ _ rfl ⟨(l2 e5 e19), rfl, rfl⟩
 replace h := ite_f c14 h
 refine G.exit ?_
 refine GX.exit_then ?_
 obtain rfl := Option.some.inj h
 refine GX.keep [7, 6, 0, 1, 2] rfl ?_
 exact hx9 _ _ _ ⟨_, _, _, e5, (hf1 _ rfl).symm, rfl, rfl⟩

/- slices.SortStableFunc[[]chirograph/node.Item,chirograph/node.Item] -/
def slices_SortStableFunc_Item (k : Nat) (a0 : (List Item)) (a1 : (Item → Item → Option Int)) : Option (List Item) :=
 ((slices_stableCmpFunc_Item k a0 (lenI a0) a1).bind fun t1 => some t1)

theorem slices_SortStableFunc_Item_ok {S : Hp} (k : Nat) (a0 : (List Item)) (a1 : (Item → Item → Option Int)) {va0 : Value} {fv1 : Nat} {cp1 : List Value} (fb1 : FnB Tryz.prog fv1) (hc1 : ∀ S₁, S.le S₁ → ∀ (x0₁ : Item) (x1₁ : Item) (r₁ : Int), a1 x0₁ x1₁ = some r₁ → Fn Tryz.prog fv1 ([aggV [sV (.int .i64 x0₁.len), sL x0₁.bits, sL x0₁.sum, sV (.int .i64 x0₁.at_)], aggV [sV (.int .i64 x1₁.len), sL x1₁.bits, sL x1₁.sum, sV (.int .i64 x1₁.at_)]] ++ cp1) S₁ (fun v S' => v = .int .i64 r₁)) {r : (List Item)} (h : slices_SortStableFunc_Item k a0 a1 = some r) : FnP Tryz.prog 183 [va0, fnV fv1 cp1] S (Rw va0 a0) (fun v S' A' => v = .tuple #[] ∧ A' = Rw va0 r) := by
 unfold slices_SortStableFunc_Item at h
 refine Fn.ofP [] 9 Tryz.func183 rfl Tryz.ntmps183 (Nat.le_of_ble_eq_true rfl) rfl (fun o F Q hQ hN hret => ?_)
 refine G.region ?_
 refine mv ?_
 refine mv ?_
 refine vl (Y.lenR 0  rfl rfl slc32) ?_
 refine mv ?_
 obtain ⟨t1, wt1, h⟩ := bind_some' h
 refine st (OS.callP 0 _ (by decide) rfl fb202 rfl (slices_stableCmpFunc_Item_ok k (fv2 := fv1) (cp2 := cp1) a0 (lenI a0) a1 fb1 (fun S₁ e₁ => hc1 S₁ (l2 l0 e₁)) wt1) (fun v2 S3 _ e4 z5 => ?_))
 obtain ⟨rfl, rfl⟩ := z5
 refine GO.nil ?_
 refine GX.fall hN ?_
 obtain rfl := Option.some.inj h
 exact hret _ _ _ _ _ 0 e4 .nil ⟨rfl, rfl⟩ rfl

/- slices.IndexFunc[[]chirograph/node.Leaf,chirograph/node.Leaf] -/
def slices_IndexFunc_Leaf_s1 (a0 : (List Leaf)) (a1 : (Leaf → Option Bool)) : (Int) → Option ((Int) ⊕ (Int ⊕ (Int)))
 | x6 => (if (decide (x6 < (lenI a0))) = true then ((req ((0 : Int) ≤ x6 ∧ x6 < lenI a0)).bind fun _ => ((a1 (getI a0 x6)).bind fun t21 => (if t21 = true then some (.inr (.inl x6)) else some (.inl (wrap64 (x6 + (1 : Int))))))) else some (.inr (.inr x6)))

def slices_IndexFunc_Leaf  (a0 : (List Leaf)) (a1 : (Leaf → Option Bool)) : Option Int :=
 ((iter (slices_IndexFunc_Leaf_s1 a0 a1) (0 : Int)).bind fun b8 => (match b8 with | .inl r₀ => some r₀ | .inr x6 => some (-1 : Int)))

theorem slices_IndexFunc_Leaf_ok {S : Hp} (a0 : (List Leaf)) (a1 : (Leaf → Option Bool)) {va0 : Value} (qa0 : Sls S va0 a0) {fv1 : Nat} {cp1 : List Value} (fb1 : FnB Tryz.prog fv1) (hc1 : ∀ S₁, S.le S₁ → ∀ (x0₁ : Leaf) (r₁ : Bool), a1 x0₁ = some r₁ → Fn Tryz.prog fv1 ([aggV [sL x0₁.label, sL x0₁.value, sV (.int .i64 x0₁.at_)]] ++ cp1) S₁ (fun v S' => v = .bool r₁)) {r : Int} (h : slices_IndexFunc_Leaf a0 a1 = some r) : Fn Tryz.prog 127 [va0, fnV fv1 cp1] S (fun v S' => v = .int .i64 r) := by
 unfold slices_IndexFunc_Leaf at h
 refine fo [.tmp 4] 19 Tryz.func127 Tryz.ntmps127 (fun o F Q hQ hN hret => ?_)
 refine sr (fun _ hK1 => ?_)
 refine an ?_
 refine nt hK1 ?_
 refine G.seq (fun _ hK2 => ?_)
 refine sr (fun _ hK3 => ?_)
 refine mv ?_
 refine vl (Y.lenS rfl qa0 slc35) ?_
 refine mv ?_
 refine nt hK3 ?_
 refine G.block ?_
 obtain ⟨b8, wb8, ho9⟩ := bind_some' h
 refine G.keep [8, 7, 0, 1] rfl ?_
 refine G.loopK (slices_IndexFunc_Leaf_s1 a0 a1) (fun s₀ E' S' L' => match s₀ with | x6 => S.le S' ∧ E' = [(8, .int .i64 x6), (7, .int .i64 (lenI a0)), (0, va0), (1, fnV fv1 cp1)] ∧ F = L') b8 0 (fun E₀ S₀ L₀ => ∃ (x6 : Int), S.le S₀ ∧ b8 = .inr x6 ∧ E₀ = [] ∧ F = L₀) wb8 ?_ ?_ ?_
 ·rintro _ S28 _ ⟨x6, e29, rfl, rfl, rfl⟩
  have h := ho9; clear ho9
  try dsimp only at h
  refine GX.exit_block ?_
  refine GX.then hK2 ?_
  refine sr (fun _ hK30 => ?_)
  refine an ?_
  refine nt hK30 ?_
  refine G.ret ?_
  obtain rfl := Option.some.inj h
  exact hret _ _ _ _ 0 e29 (.cons (.tmp rfl) .nil) rfl rfl
 ·exact ⟨Hp.le_refl _, rfl, rfl⟩
 rintro x6 _ S4 _ ⟨e5, rfl, rfl⟩ out1 h hf1 K1 hK1 hx7
 rw [slices_IndexFunc_Leaf_s1] at h
 replace qa0 := qa0.up e5
 refine sr (fun _ hK10 => ?_)
 refine vl (Y.ltI rfl rfl) ?_
 refine nt hK10 ?_
 refine G.seq (fun _ hK11 => ?_)
 refine G.cond _ rfl (fun c12 => ?_) (fun c12 => ?_)
 ·replace h := ite_t c12 h
  refine sk hK11 ?_
  refine G.seq (fun _ hK13 => ?_)
  refine G.block ?_
  refine sr (fun _ hK14 => ?_)
  refine mv ?_
  refine an ?_
  refine nt hK14 ?_
  refine sr (fun _ hK15 => ?_)
  refine mv ?_
  refine mv ?_
  refine mv ?_
  obtain ⟨g16, h⟩ := req_bind h
  obtain ⟨ad17, p18, z19, q20⟩ := Sls.at qa0 g16
  refine vl (Y.idxS rfl z19 rfl slc35 g16) ?_
  refine vl (Y.loadS [sL ((getI a0 x6).label), sL ((getI a0 x6).value), sV (.int .i64 ((getI a0 x6).at_))] rfl (At.part q20 0 3 _ rfl rfl) row25 (by kernel_rfl)) ?_
  obtain ⟨t21, wt21, h⟩ := bind_some' h
  refine st (OS.callV _ (by decide) rfl rfl fb1 (hc1 _ e5 (getI a0 x6) _ wt21) (fun v22 S23 e24 z25 => ?_))
  replace qa0 := qa0.up e24
  replace q20 := q20.up e24
  obtain rfl := z25
  refine nt hK15 ?_
  refine G.cond _ rfl (fun c26 => ?_) (fun c26 => ?_)
  ·replace h := ite_t c26 h
   refine sr (fun _ hK27 => ?_)
   refine mv ?_
   refine an ?_
   refine nt hK27 ?_
   refine G.ret ?_
   obtain rfl := Option.some.inj h
   obtain rfl := hf1 _ rfl
   have h := ho9
   try dsimp only at h
   obtain rfl := Option.some.inj h
   exact hret _ _ _ _ 0 (l2 e5 e24) (.cons (.tmp rfl) .nil) rfl rfl
  replace h := ite_f c26 h
  refine G.skip ?_
  refine GX.normal_block ?_
  refine GX.then hK13 ?_
  refine G.region ?_
  refine vl (Y.addI rfl rfl) ?_
  refine mv ?_
  refine GO.nil ?_
  obtain rfl := Option.some.inj h
  refine GX.keep [8, 7, 0, 1] rfl ?_
  exact hK1 _ _ _ _ rfl ⟨(l2 e5 e24), rfl, rfl⟩
 replace h := ite_f c12 h
 refine G.exit ?_
 refine GX.exit_then ?_
 obtain rfl := Option.some.inj h
 refine GX.keep [] rfl ?_
 exact hx7 _ _ _ ⟨_, e5, (hf1 _ rfl).symm, rfl, rfl⟩

/- slices.IndexFunc[[]chirograph/node.Item,chirograph/node.Item] -/
def slices_IndexFunc_Item_s1 (a0 : (List Item)) (a1 : (Item → Option Bool)) : (Int) → Option ((Int) ⊕ (Int ⊕ (Int)))
 | x6 => (if (decide (x6 < (lenI a0))) = true then ((req ((0 : Int) ≤ x6 ∧ x6 < lenI a0)).bind fun _ => ((a1 (getI a0 x6)).bind fun t21 => (if t21 = true then some (.inr (.inl x6)) else some (.inl (wrap64 (x6 + (1 : Int))))))) else some (.inr (.inr x6)))

def slices_IndexFunc_Item  (a0 : (List Item)) (a1 : (Item → Option Bool)) : Option Int :=
 ((iter (slices_IndexFunc_Item_s1 a0 a1) (0 : Int)).bind fun b8 => (match b8 with | .inl r₀ => some r₀ | .inr x6 => some (-1 : Int)))

theorem slices_IndexFunc_Item_ok {S : Hp} (a0 : (List Item)) (a1 : (Item → Option Bool)) {va0 : Value} (qa0 : Sls S va0 a0) {fv1 : Nat} {cp1 : List Value} (fb1 : FnB Tryz.prog fv1) (hc1 : ∀ S₁, S.le S₁ → ∀ (x0₁ : Item) (r₁ : Bool), a1 x0₁ = some r₁ → Fn Tryz.prog fv1 ([aggV [sV (.int .i64 x0₁.len), sL x0₁.bits, sL x0₁.sum, sV (.int .i64 x0₁.at_)]] ++ cp1) S₁ (fun v S' => v = .bool r₁)) {r : Int} (h : slices_IndexFunc_Item a0 a1 = some r) : Fn Tryz.prog 188 [va0, fnV fv1 cp1] S (fun v S' => v = .int .i64 r) := by
 unfold slices_IndexFunc_Item at h
 refine fo [.tmp 4] 19 Tryz.func188 Tryz.ntmps188 (fun o F Q hQ hN hret => ?_)
 refine sr (fun _ hK1 => ?_)
 refine an ?_
 refine nt hK1 ?_
 refine G.seq (fun _ hK2 => ?_)
 refine sr (fun _ hK3 => ?_)
 refine mv ?_
 refine vl (Y.lenS rfl qa0 slc32) ?_
 refine mv ?_
 refine nt hK3 ?_
 refine G.block ?_
 obtain ⟨b8, wb8, ho9⟩ := bind_some' h
 refine G.keep [8, 7, 0, 1] rfl ?_
 refine G.loopK (slices_IndexFunc_Item_s1 a0 a1) (fun s₀ E' S' L' => match s₀ with | x6 => S.le S' ∧ E' = [(8, .int .i64 x6), (7, .int .i64 (lenI a0)), (0, va0), (1, fnV fv1 cp1)] ∧ F = L') b8 0 (fun E₀ S₀ L₀ => ∃ (x6 : Int), S.le S₀ ∧ b8 = .inr x6 ∧ E₀ = [] ∧ F = L₀) wb8 ?_ ?_ ?_
 ·rintro _ S28 _ ⟨x6, e29, rfl, rfl, rfl⟩
  have h := ho9; clear ho9
  try dsimp only at h
  refine GX.exit_block ?_
  refine GX.then hK2 ?_
  refine sr (fun _ hK30 => ?_)
  refine an ?_
  refine nt hK30 ?_
  refine G.ret ?_
  obtain rfl := Option.some.inj h
  exact hret _ _ _ _ 0 e29 (.cons (.tmp rfl) .nil) rfl rfl
 ·exact ⟨Hp.le_refl _, rfl, rfl⟩
 rintro x6 _ S4 _ ⟨e5, rfl, rfl⟩ out1 h hf1 K1 hK1 hx7
 rw [slices_IndexFunc_Item_s1] at h
 replace qa0 := qa0.up e5
 refine sr (fun _ hK10 => ?_)
 refine vl (Y.ltI rfl rfl) ?_
 refine nt hK10 ?_
 refine G.seq (fun _ hK11 => ?_)
 refine G.cond _ rfl (fun c12 => ?_) (fun c12 => ?_)
 ·replace h := ite_t c12 h
  refine sk hK11 ?_
  refine G.seq (fun _ hK13 => ?_)
  refine G.block ?_
  refine sr (fun _ hK14 => ?_)
  refine mv ?_
  refine an ?_
  refine nt hK14 ?_
  refine sr (fun _ hK15 => ?_)
  refine mv ?_
  refine mv ?_
  refine mv ?_
  obtain ⟨g16, h⟩ := req_bind h
  obtain ⟨ad17, p18, z19, q20⟩ := Sls.at qa0 g16
  refine vl (Y.idxS rfl z19 rfl slc32 g16) ?_
  refine vl (Y.loadS [sV (.int .i64 ((getI a0 x6).len)), sL ((getI a0 x6).bits), sL ((getI a0 x6).sum), sV (.int .i64 ((getI a0 x6).at_))] rfl (At.part q20 0 4 _ rfl rfl) row29 (by kernel_rfl)) ?_
  obtain ⟨t21, wt21, h⟩ := bind_some' h
  refine st (OS.callV _ (by decide) rfl rfl fb1 (hc1 _ e5 (getI a0 x6) _ wt21) (fun v22 S23 e24 z25 => ?_))
  replace qa0 := qa0.up e24
  replace q20 := q20.up e24
  obtain rfl := z25
  refine nt hK15 ?_
  refine G.cond _ rfl (fun c26 => ?_) (fun c26 => ?_)
  ·replace h := ite_t c26 h
   refine sr (fun _ hK27 => ?_)
   refine mv ?_
   refine an ?_
   refine nt hK27 ?_
   refine G.ret ?_
   obtain rfl := Option.some.inj h
   obtain rfl := hf1 _ rfl
   have h := ho9
   try dsimp only at h
   obtain rfl := Option.some.inj h
   exact hret _ _ _ _ 0 (l2 e5 e24) (.cons (.tmp rfl) .nil) rfl rfl
  replace h := ite_f c26 h
  refine G.skip ?_
  refine GX.normal_block ?_
  refine GX.then hK13 ?_
  refine G.region ?_
  refine vl (Y.addI rfl rfl) ?_
  refine mv ?_
  refine GO.nil ?_
  obtain rfl := Option.some.inj h
  refine GX.keep [8, 7, 0, 1] rfl ?_
  exact hK1 _ _ _ _ rfl ⟨(l2 e5 e24), rfl, rfl⟩
 replace h := ite_f c12 h
 refine G.exit ?_
 refine GX.exit_then ?_
 obtain rfl := Option.some.inj h
 refine GX.keep [] rfl ?_
 exact hx7 _ _ _ ⟨_, e5, (hf1 _ rfl).symm, rfl, rfl⟩

end
end Go.Ch
end
section
/- Functions of the program: what each comes to, proved. -/
set_option linter.unusedVariables false
set_option linter.unusedSimpArgs false
set_option maxRecDepth 100000
set_option maxHeartbeats 4000000
namespace Go.Ch
open Go.RowKit (wrap64)
open Go.Proofs
noncomputable section
/- chirograph/proof.Check -/
def proof_Check  (a0 : Lab) (a1 : Lab) (a2 : Proof) : Option (Leaf × Bool × Int) :=
 ((proof_Proof_Nodes a2 a1).bind fun t13 => (if (t13.2 != (0 : Int)) = true then some ((⟨zL, zL, 0⟩ : Leaf), false, t13.2) else ((node_Empty).bind fun t25 => (if (decide ((0 : Int) < (lenI t13.1))) = true then ((req ((0 : Int) ≤ (wrap64 ((lenI t13.1) - (1 : Int))) ∧ (wrap64 ((lenI t13.1) - (1 : Int))) < lenI t13.1)).bind fun _ => (match (getI t13.1 (wrap64 ((lenI t13.1) - (1 : Int)))) with | .leaf x40 => ((node_Leaf_Item x40).bind fun t42 => (if (!(t42.sum == a0)) = true then some ((⟨zL, zL, 0⟩ : Leaf), false, (11 : Int)) else ((if (a2.end_ == (1 : Int)) = true then some (a2.leaf.label == a1) else some false).bind fun b53 => (if b53 = true then some (a2.leaf, true, (0 : Int)) else some ((⟨zL, zL, 0⟩ : Leaf), false, (0 : Int)))))) | .inner x41 => ((node_Inner_Item x41).bind fun t61 => (if (!(t61.sum == a0)) = true then some ((⟨zL, zL, 0⟩ : Leaf), false, (11 : Int)) else ((if (a2.end_ == (1 : Int)) = true then some (a2.leaf.label == a1) else some false).bind fun b72 => (if b72 = true then some (a2.leaf, true, (0 : Int)) else some ((⟨zL, zL, 0⟩ : Leaf), false, (0 : Int)))))) | .nil => none)) else (if (!(t25 == a0)) = true then some ((⟨zL, zL, 0⟩ : Leaf), false, (11 : Int)) else ((if (a2.end_ == (1 : Int)) = true then some (a2.leaf.label == a1) else some false).bind fun b86 => (if b86 = true then some (a2.leaf, true, (0 : Int)) else some ((⟨zL, zL, 0⟩ : Leaf), false, (0 : Int)))))))))

theorem proof_Check_ok {S : Hp} (a0 : Lab) (a1 : Lab) (a2 : Proof) {v1 : Value} (q2 : Sls S v1 a2.path) {r : Leaf × Bool × Int} (h : proof_Check a0 a1 a2 = some r) : Fn Tryz.prog 8 [aggV [sL a0], aggV [sL a1], aggV [sV (.int .i64 a2.end_), sL a2.leaf.label, sL a2.leaf.value, sV (.int .i64 a2.leaf.at_), sV (.int .i64 a2.a.len), sL a2.a.bits, sL a2.a.sum, sV (.int .i64 a2.a.at_), sV (.int .i64 a2.b.len), sL a2.b.bits, sL a2.b.sum, sV (.int .i64 a2.b.at_), sV v1]] S (fun v S' => v = .tuple #[aggV [sL r.1.label, sL r.1.value, sV (.int .i64 r.1.at_)], .bool r.2.1, .int .i64 r.2.2]) := by
 unfold proof_Check at h
 refine fo [.cell 6 25, .tmp 7, .tmp 8] 51 Tryz.func8 Tryz.ntmps8 (fun o F Q hQ hN hret => ?_)
 refine sr (fun _ hK3 => ?_)
 refine st (OS.boxA (by decide) rfl (fun ad4 => ?_))
 refine st (OS.boxA (by decide) rfl (fun ad6 => ?_))
 refine st (OS.boxA (by decide) rfl (fun ad8 => ?_))
 refine st (OS.alloc _ (by decide) zero25 (fun ad10 => ?_))
 refine an ?_
 refine an ?_
 refine nt hK3 ?_
 refine sr (fun _ hK12 => ?_)
 refine lb 1 0 13 [sV (.int .i64 a2.end_), sL a2.leaf.label, sL a2.leaf.value, sV (.int .i64 a2.leaf.at_), sV (.int .i64 a2.a.len), sL a2.a.bits, sL a2.a.sum, sV (.int .i64 a2.a.at_), sV (.int .i64 a2.b.len), sL a2.b.bits, sL a2.b.sum, sV (.int .i64 a2.b.at_), sV v1] row34 ?_
 refine lb 2 0 1 [sL a1] row23 ?_
 obtain ⟨t13, wt13, h⟩ := bind_some' h
 refine st (cl fb14 (proof_Proof_Nodes_ok a2 a1 q2 wt13) (fun v14 S15 e16 z17 => ?_))
 replace q2 := q2.up e16
 obtain ⟨v18, rfl, q19⟩ := z17
 refine mv ?_
 refine vl (Y.extract _ rfl rfl) ?_
 refine vl (Y.extract _ rfl rfl) ?_
 refine an ?_
 refine an ?_
 refine nt hK12 ?_
 refine G.seq (fun _ hK20 => ?_)
 refine sr (fun _ hK21 => ?_)
 refine mv ?_
 refine vl (Y.neI rfl rfl) ?_
 refine nt hK21 ?_
 refine G.cond _ rfl (fun c22 => ?_) (fun c22 => ?_)
 ·replace h := ite_t c22 h
  refine sr (fun _ hK23 => ?_)
  refine vl (Y.buildE _ [sL zL, sL zL, sV (.int .i64 0)] strt25 zero25 rfl .nil) ?_
  refine mv ?_
  refine sf 0 3 [sL zL, sL zL, sV (.int .i64 0)] (aggV_cells _) (oL (oL (oI oN))) size25 ?_
  refine an ?_
  refine an ?_
  refine nt hK23 ?_
  refine G.ret ?_
  obtain rfl := Option.some.inj h
  exact hret _ _ _ _ 4 e16 (.cons (.row (k := 0) rfl rfl row25 (by kernel_rfl)) (.cons (.tmp rfl) (.cons (.tmp rfl) .nil))) rfl rfl
 replace h := ite_f c22 h
 refine sk hK20 ?_
 refine sr (fun _ hK24 => ?_)
 obtain ⟨t25, wt25, h⟩ := bind_some' h
 refine st (cl fb38 (node_Empty_ok  wt25) (fun v26 S27 e28 z29 => ?_))
 replace q2 := q2.up e28
 replace q19 := q19.up e28
 obtain rfl := z29
 refine st (OS.alloc _ (by decide) zero23 (fun ad30 => ?_))
 refine sf 0 1 [sL t25] (aggV_cells _) (oL oN) size23 ?_
 refine nt hK24 ?_
 refine G.seq (fun _ hK32 => ?_)
 refine sr (fun _ hK33 => ?_)
 refine mv ?_
 refine vl (Y.lenS rfl q19 slc55) ?_
 refine vl (Y.gtI rfl rfl) ?_
 refine nt hK33 ?_
 refine G.cond _ rfl (fun c34 => ?_) (fun c34 => ?_)
 ·replace h := ite_t c34 h
  refine G.region ?_
  refine mv ?_
  refine mv ?_
  refine vl (Y.lenS rfl q19 slc55) ?_
  refine vl (Y.subI rfl rfl) ?_
  obtain ⟨g35, h⟩ := req_bind h
  obtain ⟨ad36, p37, z38, q39⟩ := Sls.at q19 g35
  refine vl (Y.idxS rfl z38 rfl slc55 g35) ?_
  refine vl (Y.loadSV _ rfl (At.val (At.part q39 0 1 [sV (ndV (getI t13.1 (wrap64 ((lenI t13.1) - (1 : Int)))))] rfl rfl)) one63) ?_
  generalize (getI t13.1 (wrap64 ((lenI t13.1) - (1 : Int)))) = n₀ at h ⊢
  rcases n₀ with x40 | x41 | _
  ·try dsimp only at h
   obtain ⟨t42, wt42, h⟩ := bind_some' h
   refine st (OS.invoke (by decide) rfl meth25_Item fb53 (node_Leaf_Item_ok x40 wt42) (fun v43 S44 e45 z46 => ?_))
   replace q2 := q2.up e45
   replace q19 := q19.up e45
   replace q39 := q39.up e45
   obtain rfl := z46
   refine vl (Y.field 2 1 [sL t42.sum] rfl ⟨_, _, Tryz.underlying29, rfl, rfl, rfl⟩ rfl rfl row23 (by kernel_rfl)) ?_
   refine sf 0 1 [sL t42.sum] (aggV_cells _) (oL oN) size23 ?_
   refine nt hK32 ?_
   refine G.seq (fun _ hK47 => ?_)
   refine sr (fun _ hK48 => ?_)
   refine lb 0 0 1 [sL t42.sum] row23 ?_
   refine lb 4 0 1 [sL a0] row23 ?_
   refine vl (Y.neA rfl rfl eqt23 (by decide) (EqV.lab _ _ Tryz.underlying23 one5 Tryz.underlying5)) ?_
   refine nt hK48 ?_
   refine G.cond _ rfl (fun c49 => ?_) (fun c49 => ?_)
   ·replace h := ite_t c49 h
    refine sr (fun _ hK50 => ?_)
    refine vl (Y.buildE _ [sL zL, sL zL, sV (.int .i64 0)] strt25 zero25 rfl .nil) ?_
    refine sf 1 3 [sL zL, sL zL, sV (.int .i64 0)] (aggV_cells _) (oL (oL (oI oN))) size25 ?_
    refine an ?_
    refine an ?_
    refine nt hK50 ?_
    refine G.ret ?_
    obtain rfl := Option.some.inj h
    exact hret _ _ _ _ 5 (l2 e16 (l2 e28 e45)) (.cons (.row (k := 1) rfl rfl row25 (by kernel_rfl)) (.cons (.tmp rfl) (.cons (.tmp rfl) .nil))) rfl rfl
   replace h := ite_f c49 h
   refine sk hK47 ?_
   refine G.seq (fun _ hK51 => ?_)
   refine sr (fun _ hK52 => ?_)
   refine vl (Y.fieldAddr 0 rfl fld34_0 rfl) ?_
   refine lv 2 0 one3 ?_
   refine vl (Y.eqI rfl rfl) ?_
   refine mv ?_
   obtain ⟨b53, wb53, h⟩ := bind_some' h
   refine GO.joinB 6 47 (b53 = ·) (fun K55 hK55 => ?_) ?_
   ·replace h := wb53
    rcases Bool.eq_false_or_eq_true (a2.end_ == (1 : Int)) with c54 | c54
    ·replace h := ite_t c54 h
     refine gv 41 c54 (Y.fieldAddr 1 rfl fld34_1 rfl) ?_
     refine gv 41 c54 (Y.fieldAddr 1 rfl fld25_0 rfl) ?_
     refine gv 41 c54 (Y.loadB 2  1 1 [sL a2.leaf.label] rfl rfl rfl rfl row23 (by kernel_rfl)) ?_
     refine gv 41 c54 (Y.loadB 3  0 1 [sL a1] rfl rfl rfl rfl row23 (by kernel_rfl)) ?_
     refine gv 41 c54 (Y.eqA rfl rfl eqt23 (by decide) (EqV.lab _ _ Tryz.underlying23 one5 Tryz.underlying5)) ?_
     refine vl (Y.pickT _ c54 rfl rfl) ?_
     refine GO.nil ?_
     refine p2 (p2 (p2 (p2 (p2 ?_))))
     exact hK55 _ _ l0 (Option.some.inj h).symm
    replace h := ite_f c54 h
    refine gf 41 c54 ?_
    refine gf 41 c54 ?_
    refine gf 41 c54 ?_
    refine gf 41 c54 ?_
    refine gf 41 c54 ?_
    refine vl (Y.pickF _ c54 rfl rfl) ?_
    refine GO.nil ?_
    refine p2 (p2 (p2 (p2 (p2 ?_))))
    exact hK55 _ _ l0 (Option.some.inj h).symm
   rintro _ S56 e57 rfl
   replace q2 := q2.up e57
   replace q19 := q19.up e57
   replace q39 := q39.up e57
   refine nt hK52 ?_
   refine G.cond _ rfl (fun c58 => ?_) (fun c58 => ?_)
   ·replace h := ite_t c58 h
    refine sr (fun _ hK59 => ?_)
    refine vl (Y.fieldAddr 1 rfl fld34_1 rfl) ?_
    refine lb 2 1 3 [sL a2.leaf.label, sL a2.leaf.value, sV (.int .i64 a2.leaf.at_)] row25 ?_
    refine sf 1 3 [sL a2.leaf.label, sL a2.leaf.value, sV (.int .i64 a2.leaf.at_)] (aggV_cells _) (oL (oL (oI oN))) size25 ?_
    refine an ?_
    refine an ?_
    refine nt hK59 ?_
    refine G.ret ?_
    obtain rfl := Option.some.inj h
    exact hret _ _ _ _ 5 (l2 e16 (l2 e28 (l2 e45 e57))) (.cons (.row (k := 1) rfl rfl row25 (by kernel_rfl)) (.cons (.tmp rfl) (.cons (.tmp rfl) .nil))) rfl rfl
   replace h := ite_f c58 h
   refine sk hK51 ?_
   refine sr (fun _ hK60 => ?_)
   refine vl (Y.buildE _ [sL zL, sL zL, sV (.int .i64 0)] strt25 zero25 rfl .nil) ?_
   refine sf 1 3 [sL zL, sL zL, sV (.int .i64 0)] (aggV_cells _) (oL (oL (oI oN))) size25 ?_
   refine an ?_
   refine an ?_
   refine nt hK60 ?_
   refine G.ret ?_
   obtain rfl := Option.some.inj h
   exact hret _ _ _ _ 5 (l2 e16 (l2 e28 (l2 e45 e57))) (.cons (.row (k := 1) rfl rfl row25 (by kernel_rfl)) (.cons (.tmp rfl) (.cons (.tmp rfl) .nil))) rfl rfl
  ·try dsimp only at h
   obtain ⟨t61, wt61, h⟩ := bind_some' h
   refine st (OS.invoke (by decide) rfl meth31_Item fb46 (node_Inner_Item_ok x41 wt61) (fun v62 S63 e64 z65 => ?_))
   replace q2 := q2.up e64
   replace q19 := q19.up e64
   replace q39 := q39.up e64
   obtain rfl := z65
   refine vl (Y.field 2 1 [sL t61.sum] rfl ⟨_, _, Tryz.underlying29, rfl, rfl, rfl⟩ rfl rfl row23 (by kernel_rfl)) ?_
   refine sf 0 1 [sL t61.sum] (aggV_cells _) (oL oN) size23 ?_
   refine nt hK32 ?_
   refine G.seq (fun _ hK66 => ?_)
   refine sr (fun _ hK67 => ?_)
   refine lb 0 0 1 [sL t61.sum] row23 ?_
   refine lb 4 0 1 [sL a0] row23 ?_
   refine vl (Y.neA rfl rfl eqt23 (by decide) (EqV.lab _ _ Tryz.underlying23 one5 Tryz.underlying5)) ?_
   refine nt hK67 ?_
   refine G.cond _ rfl (fun c68 => ?_) (fun c68 => ?_)
   ·replace h := ite_t c68 h
    refine sr (fun _ hK69 => ?_)
    refine vl (Y.buildE _ [sL zL, sL zL, sV (.int .i64 0)] strt25 zero25 rfl .nil) ?_
    refine sf 1 3 [sL zL, sL zL, sV (.int .i64 0)] (aggV_cells _) (oL (oL (oI oN))) size25 ?_
    refine an ?_
    refine an ?_
    refine nt hK69 ?_
    refine G.ret ?_
    obtain rfl := Option.some.inj h
    exact hret _ _ _ _ 5 (l2 e16 (l2 e28 e64)) (.cons (.row (k := 1) rfl rfl row25 (by kernel_rfl)) (.cons (.tmp rfl) (.cons (.tmp rfl) .nil))) rfl rfl
   replace h := ite_f c68 h
   refine sk hK66 ?_
   refine G.seq (fun _ hK70 => ?_)
   refine sr (fun _ hK71 => ?_)
   refine vl (Y.fieldAddr 0 rfl fld34_0 rfl) ?_
   refine lv 2 0 one3 ?_
   refine vl (Y.eqI rfl rfl) ?_
   refine mv ?_
   obtain ⟨b72, wb72, h⟩ := bind_some' h
   refine GO.joinB 6 47 (b72 = ·) (fun K74 hK74 => ?_) ?_
   ·replace h := wb72
    rcases Bool.eq_false_or_eq_true (a2.end_ == (1 : Int)) with c73 | c73
    ·replace h := ite_t c73 h
     refine gv 41 c73 (Y.fieldAddr 1 rfl fld34_1 rfl) ?_
     refine gv 41 c73 (Y.fieldAddr 1 rfl fld25_0 rfl) ?_
     refine gv 41 c73 (Y.loadB 2  1 1 [sL a2.leaf.label] rfl rfl rfl rfl row23 (by kernel_rfl)) ?_
     refine gv 41 c73 (Y.loadB 3  0 1 [sL a1] rfl rfl rfl rfl row23 (by kernel_rfl)) ?_
     refine gv 41 c73 (Y.eqA rfl rfl eqt23 (by decide) (EqV.lab _ _ Tryz.underlying23 one5 Tryz.underlying5)) ?_
     refine vl (Y.pickT _ c73 rfl rfl) ?_
     refine GO.nil ?_
     refine p2 (p2 (p2 (p2 (p2 ?_))))
     exact hK74 _ _ l0 (Option.some.inj h).symm
    replace h := ite_f c73 h
    refine gf 41 c73 ?_
    refine gf 41 c73 ?_
    refine gf 41 c73 ?_
    refine gf 41 c73 ?_
    refine gf 41 c73 ?_
    refine vl (Y.pickF _ c73 rfl rfl) ?_
    refine GO.nil ?_
    refine p2 (p2 (p2 (p2 (p2 ?_))))
    exact hK74 _ _ l0 (Option.some.inj h).symm
   rintro _ S75 e76 rfl
   replace q2 := q2.up e76
   replace q19 := q19.up e76
   replace q39 := q39.up e76
   refine nt hK71 ?_
   refine G.cond _ rfl (fun c77 => ?_) (fun c77 => ?_)
   ·replace h := ite_t c77 h
    refine sr (fun _ hK78 => ?_)
    refine vl (Y.fieldAddr 1 rfl fld34_1 rfl) ?_
    refine lb 2 1 3 [sL a2.leaf.label, sL a2.leaf.value, sV (.int .i64 a2.leaf.at_)] row25 ?_
    refine sf 1 3 [sL a2.leaf.label, sL a2.leaf.value, sV (.int .i64 a2.leaf.at_)] (aggV_cells _) (oL (oL (oI oN))) size25 ?_
    refine an ?_
    refine an ?_
    refine nt hK78 ?_
    refine G.ret ?_
    obtain rfl := Option.some.inj h
    exact hret _ _ _ _ 5 (l2 e16 (l2 e28 (l2 e64 e76))) (.cons (.row (k := 1) rfl rfl row25 (by kernel_rfl)) (.cons (.tmp rfl) (.cons (.tmp rfl) .nil))) rfl rfl
   replace h := ite_f c77 h
   refine sk hK70 ?_
   refine sr (fun _ hK79 => ?_)
   refine vl (Y.buildE _ [sL zL, sL zL, sV (.int .i64 0)] strt25 zero25 rfl .nil) ?_
   refine sf 1 3 [sL zL, sL zL, sV (.int .i64 0)] (aggV_cells _) (oL (oL (oI oN))) size25 ?_
   refine an ?_
   refine an ?_
   refine nt hK79 ?_
   refine G.ret ?_
   obtain rfl := Option.some.inj h
   exact hret _ _ _ _ 5 (l2 e16 (l2 e28 (l2 e64 e76))) (.cons (.row (k := 1) rfl rfl row25 (by kernel_rfl)) (.cons (.tmp rfl) (.cons (.tmp rfl) .nil))) rfl rfl
  try dsimp only at h
  exact absurd h (by simp)
 replace h := ite_f c34 h
 refine sk hK32 ?_
 refine G.seq (fun _ hK80 => ?_)
 refine sr (fun _ hK81 => ?_)
 refine lb 0 0 1 [sL t25] row23 ?_
 refine lb 4 0 1 [sL a0] row23 ?_
 refine vl (Y.neA rfl rfl eqt23 (by decide) (EqV.lab _ _ Tryz.underlying23 one5 Tryz.underlying5)) ?_
 refine nt hK81 ?_
 refine G.cond _ rfl (fun c82 => ?_) (fun c82 => ?_)
 ·replace h := ite_t c82 h
  refine sr (fun _ hK83 => ?_)
  refine vl (Y.buildE _ [sL zL, sL zL, sV (.int .i64 0)] strt25 zero25 rfl .nil) ?_
  refine sf 1 3 [sL zL, sL zL, sV (.int .i64 0)] (aggV_cells _) (oL (oL (oI oN))) size25 ?_
  refine an ?_
  refine an ?_
  refine nt hK83 ?_
  refine G.ret ?_
  obtain rfl := Option.some.inj h
  exact hret _ _ _ _ 5 (l2 e16 e28) (.cons (.row (k := 1) rfl rfl row25 (by kernel_rfl)) (.cons (.tmp rfl) (.cons (.tmp rfl) .nil))) rfl rfl
 replace h := ite_f c82 h
 refine sk hK80 ?_
 refine G.seq (fun _ hK84 => ?_)
 refine sr (fun _ hK85 => ?_)
 refine vl (Y.fieldAddr 0 rfl fld34_0 rfl) ?_
 refine lv 2 0 one3 ?_
 refine vl (Y.eqI rfl rfl) ?_
 refine mv ?_
 obtain ⟨b86, wb86, h⟩ := bind_some' h
 refine GO.joinB 6 47 (b86 = ·) (fun K88 hK88 => ?_) ?_
 ·replace h := wb86
  rcases Bool.eq_false_or_eq_true (a2.end_ == (1 : Int)) with c87 | c87
  ·replace h := ite_t c87 h
   refine gv 41 c87 (Y.fieldAddr 1 rfl fld34_1 rfl) ?_
   refine gv 41 c87 (Y.fieldAddr 1 rfl fld25_0 rfl) ?_
   refine gv 41 c87 (Y.loadB 2  1 1 [sL a2.leaf.label] rfl rfl rfl rfl row23 (by kernel_rfl)) ?_
   refine gv 41 c87 (Y.loadB 3  0 1 [sL a1] rfl rfl rfl rfl row23 (by kernel_rfl)) ?_
   refine gv 41 c87 (Y.eqA rfl rfl eqt23 (by decide) (EqV.lab _ _ Tryz.underlying23 one5 Tryz.underlying5)) ?_
   refine vl (Y.pickT _ c87 rfl rfl) ?_
   refine GO.nil ?_
   refine p2 (p2 (p2 (p2 (p2 ?_))))
   exact hK88 _ _ l0 (Option.some.inj h).symm
  replace h := ite_f c87 h
  refine gf 41 c87 ?_
  refine gf 41 c87 ?_
  refine gf 41 c87 ?_
  refine gf 41 c87 ?_
  refine gf 41 c87 ?_
  refine vl (Y.pickF _ c87 rfl rfl) ?_
  refine GO.nil ?_
  refine p2 (p2 (p2 (p2 (p2 ?_))))
  exact hK88 _ _ l0 (Option.some.inj h).symm
 rintro _ S89 e90 rfl
 replace q2 := q2.up e90
 replace q19 := q19.up e90
 refine nt hK85 ?_
 refine G.cond _ rfl (fun c91 => ?_) (fun c91 => ?_)
 ·replace h := ite_t c91 h
  refine sr (fun _ hK92 => ?_)
  refine vl (Y.fieldAddr 1 rfl fld34_1 rfl) ?_
  refine lb 2 1 3 [sL a2.leaf.label, sL a2.leaf.value, sV (.int .i64 a2.leaf.at_)] row25 ?_
  refine sf 1 3 [sL a2.leaf.label, sL a2.leaf.value, sV (.int .i64 a2.leaf.at_)] (aggV_cells _) (oL (oL (oI oN))) size25 ?_
  refine an ?_
  refine an ?_
  refine nt hK92 ?_
  refine G.ret ?_
  obtain rfl := Option.some.inj h
  exact hret _ _ _ _ 5 (l2 e16 (l2 e28 e90)) (.cons (.row (k := 1) rfl rfl row25 (by kernel_rfl)) (.cons (.tmp rfl) (.cons (.tmp rfl) .nil))) rfl rfl
 replace h := ite_f c91 h
 refine sk hK84 ?_
 refine sr (fun _ hK93 => ?_)
 refine vl (Y.buildE _ [sL zL, sL zL, sV (.int .i64 0)] strt25 zero25 rfl .nil) ?_
 refine sf 1 3 [sL zL, sL zL, sV (.int .i64 0)] (aggV_cells _) (oL (oL (oI oN))) size25 ?_
 refine an ?_
 refine an ?_
 refine nt hK93 ?_
 refine G.ret ?_
 obtain rfl := Option.some.inj h
 exact hret _ _ _ _ 5 (l2 e16 (l2 e28 e90)) (.cons (.row (k := 1) rfl rfl row25 (by kernel_rfl)) (.cons (.tmp rfl) (.cons (.tmp rfl) .nil))) rfl rfl

/- chirograph/proof.Summed -/
def proof_Summed  (a0 : Nd) : Option Str :=
 (match a0 with | .leaf x5 => ((node_LeafBytes x5).bind fun t12 => some t12) | .inner x6 => ((node_InnerBytes x6).bind fun t24 => some t24) | .nil => some ([] : Str))

theorem proof_Summed_ok {S : Hp} (a0 : Nd) {r : Str} (h : proof_Summed a0 = some r) : Fn Tryz.prog 16 [ndV a0] S (fun v S' => v = strV r) := by
 unfold proof_Summed at h
 refine fo [.tmp 2] 16 Tryz.func16 Tryz.ntmps16 (fun o F Q hQ hN hret => ?_)
 refine sr (fun _ hK1 => ?_)
 refine an ?_
 refine nt hK1 ?_
 refine G.seq (fun _ hK2 => ?_)
 refine sr (fun _ hK3 => ?_)
 refine mv ?_
 refine nt hK3 ?_
 refine G.block ?_
 refine sr (fun _ hK4 => ?_)
 generalize a0 = n₀ at h ⊢
 rcases n₀ with x5 | x6 | _
 ·try dsimp only at h
  refine vl (Y.taYes rfl stt25) ?_
  refine vl (Y.extract _ rfl rfl) ?_
  refine vl (Y.extract _ rfl rfl) ?_
  refine nt hK4 ?_
  refine G.cond true rfl (fun _ => ?_) (fun c7 => nomatch c7)
  refine sr (fun _ hK8 => ?_)
  refine st (OS.alloc _ (by decide) zero25 (fun ad9 => ?_))
  refine sf 0 3 [sL x5.label, sL x5.value, sV (.int .i64 x5.at_)] (aggV_cells _) (oL (oL (oI oN))) size25 ?_
  refine nt hK8 ?_
  refine sr (fun _ hK11 => ?_)
  refine lb 0 0 3 [sL x5.label, sL x5.value, sV (.int .i64 x5.at_)] row25 ?_
  obtain ⟨t12, wt12, h⟩ := bind_some' h
  refine st (cl fb64 (node_LeafBytes_ok x5 wt12) (fun v13 S14 e15 z16 => ?_))
  obtain rfl := z16
  refine an ?_
  refine nt hK11 ?_
  refine G.ret ?_
  obtain rfl := Option.some.inj h
  exact hret _ _ _ _ 1 e15 (.cons (.tmp rfl) .nil) rfl rfl
 ·try dsimp only at h
  refine vl (Y.taNo rfl stt25 zero25 rfl _ zv25) ?_
  refine vl (Y.extract _ rfl rfl) ?_
  refine vl (Y.extract _ rfl rfl) ?_
  refine nt hK4 ?_
  refine G.cond false rfl (fun c17 => nomatch c17) (fun _ => ?_)
  refine sr (fun _ hK18 => ?_)
  refine vl (Y.taYes rfl stt31) ?_
  refine vl (Y.extract _ rfl rfl) ?_
  refine vl (Y.extract _ rfl rfl) ?_
  refine nt hK18 ?_
  refine G.cond true rfl (fun _ => ?_) (fun c19 => nomatch c19)
  refine sr (fun _ hK20 => ?_)
  refine st (OS.alloc _ (by decide) zero31 (fun ad21 => ?_))
  refine sf 0 8 [sV (.int .i64 x6.l.len), sL x6.l.bits, sL x6.l.sum, sV (.int .i64 x6.l.at_), sV (.int .i64 x6.r.len), sL x6.r.bits, sL x6.r.sum, sV (.int .i64 x6.r.at_)] (aggV_cells _) (oI (oL (oL (oI (oI (oL (oL (oI oN)))))))) size31 ?_
  refine nt hK20 ?_
  refine sr (fun _ hK23 => ?_)
  refine lb 0 0 8 [sV (.int .i64 x6.l.len), sL x6.l.bits, sL x6.l.sum, sV (.int .i64 x6.l.at_), sV (.int .i64 x6.r.len), sL x6.r.bits, sL x6.r.sum, sV (.int .i64 x6.r.at_)] row31 ?_
  obtain ⟨t24, wt24, h⟩ := bind_some' h
  refine st (cl fb65 (node_InnerBytes_ok x6 wt24) (fun v25 S26 e27 z28 => ?_))
  obtain rfl := z28
  refine an ?_
  refine nt hK23 ?_
  refine G.ret ?_
  obtain rfl := Option.some.inj h
  exact hret _ _ _ _ 1 e27 (.cons (.tmp rfl) .nil) rfl rfl
 try dsimp only at h
 refine vl (Y.taNil (segs := []) rfl stt25 _ zv25) ?_
 refine vl (Y.extract _ rfl rfl) ?_
 refine vl (Y.extract _ rfl rfl) ?_
 refine nt hK4 ?_
 refine G.cond false rfl (fun c29 => nomatch c29) (fun _ => ?_)
 refine sr (fun _ hK30 => ?_)
 refine vl (Y.taNil (segs := []) rfl stt31 _ zv31) ?_
 refine vl (Y.extract _ rfl rfl) ?_
 refine vl (Y.extract _ rfl rfl) ?_
 refine nt hK30 ?_
 refine G.cond false rfl (fun c31 => nomatch c31) (fun _ => ?_)
 refine G.skip ?_
 refine GX.normal_block ?_
 refine GX.then hK2 ?_
 refine sr (fun _ hK32 => ?_)
 refine an ?_
 refine nt hK32 ?_
 refine G.ret ?_
 obtain rfl := Option.some.inj h
 exact hret _ _ _ _ 0 l0 (.cons (.tmp rfl) .nil) rfl rfl

/- chirograph/proof.Clash -/
def proof_Clash  (a0 : Str) (a1 : Str) : Option Bool :=
 ((if (!(a0 == a1)) = true then ((sha_Sum a0).bind fun t6 => ((sha_Sum a1).bind fun t11 => some (t6 == t11))) else some false).bind fun b3 => some b3)

theorem proof_Clash_ok {S : Hp} (a0 : Str) (a1 : Str) {r : Bool} (h : proof_Clash a0 a1 = some r) : Fn Tryz.prog 17 [strV a0, strV a1] S (fun v S' => v = .bool r) := by
 unfold proof_Clash at h
 refine fo [.tmp 4] 15 Tryz.func17 Tryz.ntmps17 (fun o F Q hQ hN hret => ?_)
 refine sr (fun _ hK1 => ?_)
 refine an ?_
 refine nt hK1 ?_
 refine sr (fun _ hK2 => ?_)
 refine mv ?_
 refine mv ?_
 refine vl (Y.neStr (a := a0) (b := a1) rfl rfl) ?_
 refine mv ?_
 obtain ⟨b3, wb3, h⟩ := bind_some' h
 refine GO.joinB 6 14 (b3 = ·) (fun K5 hK5 => ?_) ?_
 ·replace h := wb3
  rcases Bool.eq_false_or_eq_true (!(a0 == a1)) with c4 | c4
  ·replace h := ite_t c4 h
   refine gv 8 c4 (Y.move rfl) ?_
   obtain ⟨t6, wt6, h⟩ := bind_some' h
   refine GO.onS 8 rfl (by decide) rfl c4 (cl fb66 (sha_Sum_ok a0 wt6) (fun v7 S8 e9 z10 => ?_))
   obtain rfl := z10
   refine gv 8 c4 (Y.move rfl) ?_
   obtain ⟨t11, wt11, h⟩ := bind_some' h
   refine GO.onS 8 rfl (by decide) rfl c4 (cl fb66 (sha_Sum_ok a1 wt11) (fun v12 S13 e14 z15 => ?_))
   obtain rfl := z15
   refine gv 8 c4 (Y.eqA rfl rfl eqt23 (by decide) (EqV.lab _ _ Tryz.underlying23 one5 Tryz.underlying5)) ?_
   refine vl (Y.pickT _ c4 rfl rfl) ?_
   refine GO.nil ?_
   refine p2 (p2 (p2 (p2 (p2 ?_))))
   exact hK5 _ _ (l2 e9 e14) (Option.some.inj h).symm
  replace h := ite_f c4 h
  refine gf 8 c4 ?_
  refine gf 8 c4 ?_
  refine gf 8 c4 ?_
  refine gf 8 c4 ?_
  refine gf 8 c4 ?_
  refine vl (Y.pickF _ c4 rfl rfl) ?_
  refine GO.nil ?_
  refine p2 (p2 (p2 (p2 (p2 ?_))))
  exact hK5 _ _ l0 (Option.some.inj h).symm
 rintro _ S16 e17 rfl
 refine an ?_
 refine nt hK2 ?_
 refine G.ret ?_
 obtain rfl := Option.some.inj h
 exact hret _ _ _ _ 0 e17 (.cons (.tmp rfl) .nil) rfl rfl

/- chirograph/proof.sorted$1 -/
def proof_sorted_1  (a0 : Leaf) (a1 : Leaf) : Option Int :=
 ((bits_Order a0.label a1.label).bind fun t7 => some t7)

theorem proof_sorted_1_ok {S : Hp} (a0 : Leaf) (a1 : Leaf) {r : Int} (h : proof_sorted_1 a0 a1 = some r) : Fn Tryz.prog 120 [aggV [sL a0.label, sL a0.value, sV (.int .i64 a0.at_)], aggV [sL a1.label, sL a1.value, sV (.int .i64 a1.at_)]] S (fun v S' => v = .int .i64 r) := by
 unfold proof_sorted_1 at h
 refine fo [.tmp 4] 10 Tryz.func120 Tryz.ntmps120 (fun o F Q hQ hN hret => ?_)
 refine sr (fun _ hK1 => ?_)
 refine st (OS.boxA (by decide) rfl (fun ad2 => ?_))
 refine st (OS.boxA (by decide) rfl (fun ad4 => ?_))
 refine an ?_
 refine nt hK1 ?_
 refine sr (fun _ hK6 => ?_)
 refine vl (Y.fieldAddr 0 rfl fld25_0 rfl) ?_
 refine lb 1 0 1 [sL a0.label] row23 ?_
 refine vl (Y.fieldAddr 0 rfl fld25_0 rfl) ?_
 refine lb 0 0 1 [sL a1.label] row23 ?_
 obtain ⟨t7, wt7, h⟩ := bind_some' h
 refine st (cl fb121 (bits_Order_ok a0.label a1.label wt7) (fun v8 S9 e10 z11 => ?_))
 obtain rfl := z11
 refine an ?_
 refine nt hK6 ?_
 refine G.ret ?_
 obtain rfl := Option.some.inj h
 exact hret _ _ _ _ 2 e10 (.cons (.tmp rfl) .nil) rfl rfl

/- chirograph/proof.sorted -/
def proof_sorted (k : Nat) (a0 : (List Leaf)) : Option (List Leaf) :=
 ((slices_Clone_Leaf a0).bind fun t3 => ((slices_SortStableFunc_Leaf k t3 (fun x0₁ x1₁ => proof_sorted_1 x0₁ x1₁)).bind fun t10 => some t10))

theorem proof_sorted_ok {S : Hp} (k : Nat) (a0 : (List Leaf)) {va0 : Value} (qa0 : Sls S va0 a0) {r : (List Leaf)} (h : proof_sorted k a0 = some r) : Fn Tryz.prog 42 [va0] S (fun v S' => Sls S' v r) := by
 unfold proof_sorted at h
 refine fo [.tmp 2] 9 Tryz.func42 Tryz.ntmps42 (fun o F Q hQ hN hret => ?_)
 refine sr (fun _ hK1 => ?_)
 refine an ?_
 refine nt hK1 ?_
 refine sr (fun _ hK2 => ?_)
 refine mv ?_
 obtain ⟨t3, wt3, h⟩ := bind_some' h
 refine st (OS.callN _ (by decide) rfl fb118 (slices_Clone_Leaf_ok a0 qa0 wt3) (fun v4 S5 _ e6 z7 => ?_))
 replace qa0 := qa0.up e6
 obtain rfl := z7
 refine an ?_
 refine nt hK2 ?_
 refine sr (fun _ hK9 => ?_)
 refine mv ?_
 obtain ⟨t10, wt10, h⟩ := bind_some' h
 refine st (OS.callP 0 _ (by decide) rfl fb119 rfl (slices_SortStableFunc_Leaf_ok k (fv1 := 120) (cp1 := []) t3 (fun x0₁ x1₁ => proof_sorted_1 x0₁ x1₁) fb120 (fun S₁ e₁ x0₁ x1₁ r₁ h₁ => proof_sorted_1_ok x0₁ x1₁ h₁) wt10) (fun v11 S12 _ e13 z14 => ?_))
 replace qa0 := qa0.up e13
 obtain ⟨rfl, rfl⟩ := z14
 refine nt hK9 ?_
 refine sr (fun _ hK15 => ?_)
 refine mv ?_
 refine an ?_
 refine nt hK15 ?_
 refine G.ret ?_
 refine GX.shareR 0 rfl (fun S16 e17 q18 => ?_)
 replace qa0 := qa0.up e17
 obtain rfl := Option.some.inj h
 exact hret _ _ _ _ 1 (l2 e6 (l2 e13 e17)) (.cons (.tmp rfl) .nil) q18 rfl

/- chirograph/proof.sides$1 -/
def proof_sides_1  (a0 : Leaf) (a1 : Int) : Option Bool :=
 ((bits_Bit a0.label a1).bind fun t5 => some (t5 == (1 : Int)))

theorem proof_sides_1_ok {S : Hp} (a0 : Leaf) (a1 : Int) {b1 o1 : Nat} (qp1 : At S b1 o1 (cells [sV (.int .i64 a1)])) {r : Bool} (h : proof_sides_1 a0 a1 = some r) : Fn Tryz.prog 128 [aggV [sL a0.label, sL a0.value, sV (.int .i64 a0.at_)], .pointer (some ⟨b1, o1, none⟩)] S (fun v S' => v = .bool r) := by
 unfold proof_sides_1 at h
 refine fo [.tmp 3] 9 Tryz.func128 Tryz.ntmps128 (fun o F Q hQ hN hret => ?_)
 refine sr (fun _ hK1 => ?_)
 refine st (OS.boxA (by decide) rfl (fun ad2 => ?_))
 refine an ?_
 refine nt hK1 ?_
 refine sr (fun _ hK4 => ?_)
 refine vl (Y.fieldAddr 0 rfl fld25_0 rfl) ?_
 refine lb 0 0 1 [sL a0.label] row23 ?_
 refine vl (Y.loadSV _ rfl (At.val (At.part qp1 0 1 [sV (.int .i64 a1)] rfl rfl)) one3) ?_
 obtain ⟨t5, wt5, h⟩ := bind_some' h
 refine st (cl fb48 (bits_Bit_ok a0.label a1 wt5) (fun v6 S7 e8 z9 => ?_))
 replace qp1 := qp1.up e8
 obtain rfl := z9
 refine vl (Y.eqI rfl rfl) ?_
 refine an ?_
 refine nt hK4 ?_
 refine G.ret ?_
 obtain rfl := Option.some.inj h
 exact hret _ _ _ _ 1 e8 (.cons (.tmp rfl) .nil) rfl rfl

/- chirograph/proof.sides -/
def proof_sides  (a0 : (List Leaf)) (a1 : Int) : Option ((List Leaf) × (List Leaf)) :=
 ((slices_IndexFunc_Leaf a0 (fun x0₁ => proof_sides_1 x0₁ a1)).bind fun t8 => (if (decide (t8 < (0 : Int))) = true then ((req ((0 : Int) ≤ 0 ∧ 0 ≤ (lenI a0) ∧ (lenI a0) ≤ lenI a0)).bind fun _ => ((req ((0 : Int) ≤ (lenI a0) ∧ (lenI a0) ≤ (lenI a0) ∧ (lenI a0) ≤ lenI a0)).bind fun _ => some ((cutL a0 0 (lenI a0)), (cutL a0 (lenI a0) (lenI a0))))) else ((req ((0 : Int) ≤ 0 ∧ 0 ≤ t8 ∧ t8 ≤ lenI a0)).bind fun _ => ((req ((0 : Int) ≤ t8 ∧ t8 ≤ (lenI a0) ∧ (lenI a0) ≤ lenI a0)).bind fun _ => some ((cutL a0 0 t8), (cutL a0 t8 (lenI a0)))))))

theorem proof_sides_ok {S : Hp} (a0 : (List Leaf)) (a1 : Int) {va0 : Value} (qa0 : Sls S va0 a0) {r : (List Leaf) × (List Leaf)} (h : proof_sides a0 a1 = some r) : Fn Tryz.prog 47 [va0, .int .i64 a1] S (fun v S' => ∃ (v0₁ : Value) (v1₁ : Value), v = .tuple #[v0₁, v1₁] ∧ Sls S' v0₁ r.1 ∧ Sls S' v1₁ r.2) := by
 unfold proof_sides at h
 refine fo [.tmp 4, .tmp 5] 20 Tryz.func47 Tryz.ntmps47 (fun o F Q hQ hN hret => ?_)
 refine sr (fun _ hK1 => ?_)
 refine st (OS.boxV (by decide) rfl rfl (fun ad2 => ?_))
 refine an ?_
 refine an ?_
 refine nt hK1 ?_
 refine sr (fun _ hK4 => ?_)
 refine mv ?_
 refine GO.shareB 0 rfl (fun S5 e6 q7 => ?_)
 replace qa0 := qa0.up e6
 refine vl (Y.makeFunc rfl) ?_
 obtain ⟨t8, wt8, h⟩ := bind_some' h
 refine st (cl fb127 (slices_IndexFunc_Leaf_ok (fv1 := 128) (cp1 := [.pointer (some ⟨ad2, 0, none⟩)]) a0 (fun x0₁ => proof_sides_1 x0₁ a1) qa0 fb128 (fun S₁ e₁ x0₁ r₁ h₁ => proof_sides_1_ok x0₁ a1 (q7.up e₁) h₁) wt8) (fun v9 S10 e11 z12 => ?_))
 replace qa0 := qa0.up e11
 replace q7 := q7.up e11
 obtain rfl := z12
 refine an ?_
 refine nt hK4 ?_
 refine G.seq (fun _ hK13 => ?_)
 refine sr (fun _ hK14 => ?_)
 refine mv ?_
 refine vl (Y.ltI rfl rfl) ?_
 refine nt hK14 ?_
 refine G.cond _ rfl (fun c15 => ?_) (fun c15 => ?_)
 ·replace h := ite_t c15 h
  refine G.region ?_
  refine mv ?_
  refine vl (Y.lenS rfl qa0 slc35) ?_
  refine an ?_
  refine nt hK13 ?_
  refine G.seq (fun _ hK16 => ?_)
  obtain ⟨g18, h⟩ := req_bind h
  obtain ⟨g21, h⟩ := req_bind h
  refine G.cut (fun E₀ S₀ L₀ => ∃ (v22 : Value) (v19 : Value), S10.le S₀ ∧ Sls S₀ v22 (cutL a0 (lenI a0) (lenI a0)) ∧ Sls S₀ v19 (cutL a0 0 (lenI a0)) ∧ E₀ = [(5, v22), (4, v19)] ∧ (fun _ => True) :: F = L₀) (fun K17 hK17 => ?_) ?_
  ·refine G.drawN 8 mixed (by kernel_rfl) ?_
   refine tn 0 rfl hQ (fun _ _ _ => Y.move rfl) ?_
   refine tn 1 rfl hQ (fun _ _ _ => Y.move rfl) ?_
   refine tn 3 rfl hQ (fun _ _ _ => Y.move rfl) ?_
   refine tn 4 rfl hQ (fun _ _ _ => Y.move rfl) ?_
   refine GDr.any [2, 5] (by kernel_rfl) rfl (AllR.two ?_ ?_)
   ·refine n1 rfl (OS.sliceS 0 (lenI a0) none (some (.int .i64 (lenI a0))) (by decide) rfl qa0 slc35 rfl rfl (.inl ⟨rfl, rfl⟩) (.inr ⟨_, rfl⟩) g18 (fun v24 q25 => ⟨⟨[], .refl, l0⟩, ?_⟩))
    refine tn 6 rfl hQ (fun _ _ _ => Y.assign rfl) ?_
    refine g1 5 ?_
    refine n1 rfl (OS.sliceS (lenI a0) (lenI a0) (some (.int .i64 (lenI a0))) none (by decide) rfl qa0 slc35 rfl rfl (.inr ⟨_, rfl⟩) (.inl ⟨rfl, rfl⟩) g21 (fun v26 q27 => ⟨⟨[], .refl, l0⟩, ?_⟩))
    refine tn 7 rfl hQ (fun _ _ _ => Y.assign rfl) ?_
    refine dn ?_
    refine GX.keep [5, 4] rfl ?_
    exact hK17 _ _ _ ⟨v26, v24, l0, q27, q25, rfl, rfl⟩
   refine n1 rfl (OS.sliceS (lenI a0) (lenI a0) (some (.int .i64 (lenI a0))) none (by decide) rfl qa0 slc35 rfl rfl (.inr ⟨_, rfl⟩) (.inl ⟨rfl, rfl⟩) g21 (fun v28 q29 => ⟨⟨[], .refl, l0⟩, ?_⟩))
   refine g1 2 ?_
   refine n1 rfl (OS.sliceS 0 (lenI a0) none (some (.int .i64 (lenI a0))) (by decide) rfl qa0 slc35 rfl rfl (.inl ⟨rfl, rfl⟩) (.inr ⟨_, rfl⟩) g18 (fun v30 q31 => ⟨⟨[], .refl, l0⟩, ?_⟩))
   refine tn 6 rfl hQ (fun _ _ _ => Y.assign rfl) ?_
   refine tn 7 rfl hQ (fun _ _ _ => Y.assign rfl) ?_
   refine dn ?_
   refine GX.keep [5, 4] rfl ?_
   exact hK17 _ _ _ ⟨v28, v30, l0, q29, q31, rfl, rfl⟩
  rintro _ S32 _ ⟨v22, v19, e33, q23, q20, rfl, rfl⟩
  refine GX.then hK16 ?_
  refine G.ret ?_
  obtain rfl := Option.some.inj h
  exact hret _ _ _ _ 1 (l2 e6 (l2 e11 e33)) (.cons (.tmp rfl) (.cons (.tmp rfl) .nil)) ⟨_, _, rfl, q20, q23⟩ rfl
 replace h := ite_f c15 h
 refine sk hK13 ?_
 refine G.seq (fun _ hK34 => ?_)
 obtain ⟨g36, h⟩ := req_bind h
 obtain ⟨g39, h⟩ := req_bind h
 refine G.cut (fun E₀ S₀ L₀ => ∃ (v40 : Value) (v37 : Value), S10.le S₀ ∧ Sls S₀ v40 (cutL a0 t8 (lenI a0)) ∧ Sls S₀ v37 (cutL a0 0 t8) ∧ E₀ = [(5, v40), (4, v37)] ∧ (fun _ => True) :: F = L₀) (fun K35 hK35 => ?_) ?_
 ·refine G.drawN 8 mixed (by kernel_rfl) ?_
  refine tn 0 rfl hQ (fun _ _ _ => Y.move rfl) ?_
  refine tn 1 rfl hQ (fun _ _ _ => Y.move rfl) ?_
  refine tn 3 rfl hQ (fun _ _ _ => Y.move rfl) ?_
  refine tn 4 rfl hQ (fun _ _ _ => Y.move rfl) ?_
  refine GDr.any [2, 5] (by kernel_rfl) rfl (AllR.two ?_ ?_)
  ·refine n1 rfl (OS.sliceS 0 t8 none (some (.int .i64 t8)) (by decide) rfl qa0 slc35 rfl rfl (.inl ⟨rfl, rfl⟩) (.inr ⟨_, rfl⟩) g36 (fun v42 q43 => ⟨⟨[], .refl, l0⟩, ?_⟩))
   refine tn 6 rfl hQ (fun _ _ _ => Y.assign rfl) ?_
   refine g1 5 ?_
   refine n1 rfl (OS.sliceS t8 (lenI a0) (some (.int .i64 t8)) none (by decide) rfl qa0 slc35 rfl rfl (.inr ⟨_, rfl⟩) (.inl ⟨rfl, rfl⟩) g39 (fun v44 q45 => ⟨⟨[], .refl, l0⟩, ?_⟩))
   refine tn 7 rfl hQ (fun _ _ _ => Y.assign rfl) ?_
   refine dn ?_
   refine GX.keep [5, 4] rfl ?_
   exact hK35 _ _ _ ⟨v44, v42, l0, q45, q43, rfl, rfl⟩
  refine n1 rfl (OS.sliceS t8 (lenI a0) (some (.int .i64 t8)) none (by decide) rfl qa0 slc35 rfl rfl (.inr ⟨_, rfl⟩) (.inl ⟨rfl, rfl⟩) g39 (fun v46 q47 => ⟨⟨[], .refl, l0⟩, ?_⟩))
  refine g1 2 ?_
  refine n1 rfl (OS.sliceS 0 t8 none (some (.int .i64 t8)) (by decide) rfl qa0 slc35 rfl rfl (.inl ⟨rfl, rfl⟩) (.inr ⟨_, rfl⟩) g36 (fun v48 q49 => ⟨⟨[], .refl, l0⟩, ?_⟩))
  refine tn 6 rfl hQ (fun _ _ _ => Y.assign rfl) ?_
  refine tn 7 rfl hQ (fun _ _ _ => Y.assign rfl) ?_
  refine dn ?_
  refine GX.keep [5, 4] rfl ?_
  exact hK35 _ _ _ ⟨v46, v48, l0, q47, q49, rfl, rfl⟩
 rintro _ S50 _ ⟨v40, v37, e51, q41, q38, rfl, rfl⟩
 refine GX.then hK34 ?_
 refine G.ret ?_
 obtain rfl := Option.some.inj h
 exact hret _ _ _ _ 1 (l2 e6 (l2 e11 e51)) (.cons (.tmp rfl) (.cons (.tmp rfl) .nil)) ⟨_, _, rfl, q38, q41⟩ rfl

/- chirograph/proof.pair -/
def proof_pair (rec : (List Leaf) → Option Item) (a0 : (List Leaf)) : Option Inner :=
 ((req ((0 : Int) ≤ (0 : Int) ∧ (0 : Int) < lenI a0)).bind fun _ => ((req ((0 : Int) ≤ (wrap64 ((lenI a0) - (1 : Int))) ∧ (wrap64 ((lenI a0) - (1 : Int))) < lenI a0)).bind fun _ => ((bits_Common ((getI a0 (0 : Int)).label) ((getI a0 (wrap64 ((lenI a0) - (1 : Int)))).label)).bind fun t15 => ((proof_sides a0 t15).bind fun t23 => ((rec t23.1).bind fun t54 => ((rec t23.2).bind fun t59 => some (⟨t54, t59⟩ : Inner)))))))

theorem proof_pair_ok {S : Hp} (rec : (List Leaf) → Option Item) (hrec : ∀ S₁, S.le S₁ → ∀ (a₁ : (List Leaf)) {v₁ : Value} (q₁ : Sls S₁ v₁ a₁) {r₁ : Item} (h₁ : rec a₁ = some r₁), Fn Tryz.prog 125 [v₁] S₁ (fun v S' => v = aggV [sV (.int .i64 r₁.len), sL r₁.bits, sL r₁.sum, sV (.int .i64 r₁.at_)])) (a0 : (List Leaf)) {va0 : Value} (qa0 : Sls S va0 a0) {r : Inner} (h : proof_pair rec a0 = some r) : Fn Tryz.prog 45 [va0] S (fun v S' => v = aggV [sV (.int .i64 r.l.len), sL r.l.bits, sL r.l.sum, sV (.int .i64 r.l.at_), sV (.int .i64 r.r.len), sL r.r.bits, sL r.r.sum, sV (.int .i64 r.r.at_)]) := by
 unfold proof_pair at h
 refine fo [.cell 2 31] 27 Tryz.func45 Tryz.ntmps45 (fun o F Q hQ hN hret => ?_)
 refine sr (fun _ hK1 => ?_)
 refine st (OS.alloc _ (by decide) zero31 (fun ad2 => ?_))
 refine nt hK1 ?_
 refine G.seq (fun _ hK4 => ?_)
 obtain ⟨g5, h⟩ := req_bind h
 obtain ⟨ad6, p7, z8, q9⟩ := Sls.at qa0 g5
 obtain ⟨g10, h⟩ := req_bind h
 obtain ⟨ad11, p12, z13, q14⟩ := Sls.at qa0 g10
 obtain ⟨t15, wt15, h⟩ := bind_some' h
 obtain ⟨t23, wt23, h⟩ := bind_some' h
 refine G.drawN 19 mixed (by kernel_rfl) ?_
 refine tn 0 rfl hQ (fun _ _ _ => Y.move rfl) ?_
 refine tn 1 rfl hQ (fun _ _ _ => Y.move rfl) ?_
 refine tn 2 rfl hQ (fun _ _ _ => Y.idxS rfl z8 rfl slc35 g5) ?_
 refine tn 3 rfl hQ (fun _ _ _ => Y.fieldAddr _ rfl fld25_0 rfl) ?_
 refine tn 4 rfl hQ (fun S₀ X₀ e₀ => Y.loadS [sL ((getI a0 (0 : Int)).label)] rfl (At.part (q9.up e₀) 0 1 _ rfl rfl) row23 (by kernel_rfl)) ?_
 refine tn 5 rfl hQ (fun _ _ _ => Y.move rfl) ?_
 refine tn 6 rfl hQ (fun _ _ _ => Y.move rfl) ?_
 refine tn 7 rfl hQ (fun S₀ X₀ e₀ => Y.lenS rfl (qa0.up e₀) slc35) ?_
 refine tn 8 rfl hQ (fun _ _ _ => Y.subI rfl rfl) ?_
 refine tn 9 rfl hQ (fun _ _ _ => Y.idxS rfl z13 rfl slc35 g10) ?_
 refine tn 10 rfl hQ (fun _ _ _ => Y.fieldAddr _ rfl fld25_0 rfl) ?_
 refine tn 11 rfl hQ (fun S₀ X₀ e₀ => Y.loadS [sL ((getI a0 (wrap64 ((lenI a0) - (1 : Int)))).label)] rfl (At.part (q14.up e₀) 0 1 _ rfl rfl) row23 (by kernel_rfl)) ?_
 refine g1 12 ?_
 refine n1 rfl (cl fb124 (bits_Common_ok ((getI a0 (0 : Int)).label) ((getI a0 (wrap64 ((lenI a0) - (1 : Int)))).label) wt15) (fun v35 S36 e37 z38 => ⟨⟨[], .refl, e37⟩, ?_⟩))
 have q39 := qa0.up e37
 have q40 := q9.up e37
 have q41 := q14.up e37
 obtain rfl := z38
 refine g1 13 ?_
 refine n1 rfl (cl fb47 (proof_sides_ok a0 t15 q39 wt23) (fun v42 S43 e44 z45 => ⟨⟨[], .refl, (l2 e37 e44)⟩, ?_⟩))
 have q46 := q39.up e44
 have q47 := q40.up e44
 have q48 := q41.up e44
 obtain ⟨v49, v51, rfl, q50, q52⟩ := z45
 refine tn 14 rfl hQ (fun _ _ _ => Y.move rfl) ?_
 refine tn 15 rfl hQ (fun _ _ _ => Y.extract _ rfl rfl) ?_
 refine tn 16 rfl hQ (fun _ _ _ => Y.extract _ rfl rfl) ?_
 refine tn 17 rfl hQ (fun _ _ _ => Y.assign rfl) ?_
 refine tn 18 rfl hQ (fun _ _ _ => Y.assign rfl) ?_
 refine dn ?_
 refine GX.then hK4 ?_
 refine sr (fun _ hK53 => ?_)
 refine mv ?_
 obtain ⟨t54, wt54, h⟩ := bind_some' h
 refine st (cl fb125 (hrec _ (l2 e37 e44) t23.1 q50 wt54) (fun v55 S56 e57 z58 => ?_))
 replace q46 := q46.up e57
 replace q50 := q50.up e57
 replace q52 := q52.up e57
 obtain rfl := z58
 refine mv ?_
 obtain ⟨t59, wt59, h⟩ := bind_some' h
 refine st (cl fb125 (hrec _ (l2 e37 (l2 e44 e57)) t23.2 q52 wt59) (fun v60 S61 e62 z63 => ?_))
 replace q46 := q46.up e62
 replace q50 := q50.up e62
 replace q52 := q52.up e62
 obtain rfl := z63
 refine vl (Y.buildE _ [sV (.int .i64 t54.len), sL t54.bits, sL t54.sum, sV (.int .i64 t54.at_), sV (.int .i64 t59.len), sL t59.bits, sL t59.sum, sV (.int .i64 t59.at_)] strt31 zero31 rfl (.cons 0 4 [sV (.int .i64 t54.len), sL t54.bits, sL t54.sum, sV (.int .i64 t54.at_)] rfl (aggV_cells _) rfl rfl rfl (.cons 4 4 [sV (.int .i64 t59.len), sL t59.bits, sL t59.sum, sV (.int .i64 t59.at_)] rfl (aggV_cells _) rfl rfl rfl .nil))) ?_
 refine sf 0 8 [sV (.int .i64 t54.len), sL t54.bits, sL t54.sum, sV (.int .i64 t54.at_), sV (.int .i64 t59.len), sL t59.bits, sL t59.sum, sV (.int .i64 t59.at_)] (aggV_cells _) (oI (oL (oL (oI (oI (oL (oL (oI oN)))))))) size31 ?_
 refine nt hK53 ?_
 refine G.ret ?_
 obtain rfl := Option.some.inj h
 exact hret _ _ _ _ 1 (l2 e37 (l2 e44 (l2 e57 e62))) (.cons (.row (k := 0) rfl rfl row31 (by kernel_rfl)) .nil) rfl rfl

/- chirograph/proof.item -/
def proof_item : Nat → (List Leaf) → Option Item
 | 0 => fun _ => none
 | k + 1 => fun a0 =>
 (if ((lenI a0) == (1 : Int)) = true then ((req ((0 : Int) ≤ (0 : Int) ∧ (0 : Int) < lenI a0)).bind fun _ => ((node_Leaf_Item (getI a0 (0 : Int))).bind fun t13 => some t13)) else ((proof_pair (proof_item k) a0).bind fun t19 => ((node_Inner_Item t19).bind fun t24 => some t24)))

theorem proof_item_ok (k : Nat) : ∀ {S : Hp} (a0 : (List Leaf)) {va0 : Value} (qa0 : Sls S va0 a0) {r : Item} (h : proof_item k a0 = some r), Fn Tryz.prog 125 [va0] S (fun v S' => v = aggV [sV (.int .i64 r.len), sL r.bits, sL r.sum, sV (.int .i64 r.at_)]) := by
 induction k with
 | zero => intro S; intros; rename_i h; simp [proof_item] at h
 | succ k ih =>
 intro S a0 va0 qa0 r h
 rw [proof_item] at h
 replace ih := @ih
 refine fo [.cell 2 29] 13 Tryz.func125 Tryz.ntmps125 (fun o F Q hQ hN hret => ?_)
 refine sr (fun _ hK1 => ?_)
 refine st (OS.alloc _ (by decide) zero29 (fun ad2 => ?_))
 refine nt hK1 ?_
 refine G.seq (fun _ hK4 => ?_)
 refine sr (fun _ hK5 => ?_)
 refine mv ?_
 refine vl (Y.lenS rfl qa0 slc35) ?_
 refine vl (Y.eqI rfl rfl) ?_
 refine nt hK5 ?_
 refine G.cond _ rfl (fun c6 => ?_) (fun c6 => ?_)
 ·replace h := ite_t c6 h
  refine sr (fun _ hK7 => ?_)
  refine mv ?_
  obtain ⟨g8, h⟩ := req_bind h
  obtain ⟨ad9, p10, z11, q12⟩ := Sls.at qa0 g8
  refine vl (Y.idxS rfl z11 rfl slc35 g8) ?_
  refine vl (Y.loadS [sL ((getI a0 (0 : Int)).label), sL ((getI a0 (0 : Int)).value), sV (.int .i64 ((getI a0 (0 : Int)).at_))] rfl (At.part q12 0 3 _ rfl rfl) row25 (by kernel_rfl)) ?_
  obtain ⟨t13, wt13, h⟩ := bind_some' h
  refine st (cl fb53 (node_Leaf_Item_ok (getI a0 (0 : Int)) wt13) (fun v14 S15 e16 z17 => ?_))
  replace qa0 := qa0.up e16
  replace q12 := q12.up e16
  obtain rfl := z17
  refine sf 0 4 [sV (.int .i64 t13.len), sL t13.bits, sL t13.sum, sV (.int .i64 t13.at_)] (aggV_cells _) (oI (oL (oL (oI oN)))) size29 ?_
  refine nt hK7 ?_
  refine G.ret ?_
  obtain rfl := Option.some.inj h
  exact hret _ _ _ _ 1 e16 (.cons (.row (k := 0) rfl rfl row29 (by kernel_rfl)) .nil) rfl rfl
 replace h := ite_f c6 h
 refine sk hK4 ?_
 refine sr (fun _ hK18 => ?_)
 refine mv ?_
 obtain ⟨t19, wt19, h⟩ := bind_some' h
 refine st (cl fb45 (proof_pair_ok (proof_item k) (fun S₁ e₁ a₁ v₁ q₁ r₁ h₁ => ih a₁ q₁ h₁) a0 qa0 wt19) (fun v20 S21 e22 z23 => ?_))
 replace qa0 := qa0.up e22
 obtain rfl := z23
 obtain ⟨t24, wt24, h⟩ := bind_some' h
 refine st (cl fb46 (node_Inner_Item_ok t19 wt24) (fun v25 S26 e27 z28 => ?_))
 replace qa0 := qa0.up e27
 obtain rfl := z28
 refine sf 0 4 [sV (.int .i64 t24.len), sL t24.bits, sL t24.sum, sV (.int .i64 t24.at_)] (aggV_cells _) (oI (oL (oL (oI oN)))) size29 ?_
 refine nt hK18 ?_
 refine G.ret ?_
 obtain rfl := Option.some.inj h
 exact hret _ _ _ _ 1 (l2 e22 e27) (.cons (.row (k := 0) rfl rfl row29 (by kernel_rfl)) .nil) rfl rfl

end
end Go.Ch
end
section
/- Functions of the program: what each comes to, proved. -/
set_option linter.unusedVariables false
set_option linter.unusedSimpArgs false
set_option maxRecDepth 100000
set_option maxHeartbeats 4000000
namespace Go.Ch
open Go.RowKit (wrap64)
open Go.Proofs
noncomputable section
/- chirograph/chirographref03.Bytes -/
def r03_Bytes_s1 (a1 : (List Str)) : (Int × Str) → Option ((Int × Str) ⊕ (Int × Str))
 | (x9, x10) => (if (decide (x9 < (lenI a1))) = true then ((req ((0 : Int) ≤ x9 ∧ x9 < lenI a1)).bind fun _ => ((req (List.length ([(u8I (shrInt (lenI (getI a1 x9)) 24)), (u8I (shrInt (lenI (getI a1 x9)) 16)), (u8I (shrInt (lenI (getI a1 x9)) 8)), (u8I (lenI (getI a1 x9)))] : List UInt8) + List.length (getI a1 x9) ≤ LIM)).bind fun _ => ((req (List.length x10 + List.length (([(u8I (shrInt (lenI (getI a1 x9)) 24)), (u8I (shrInt (lenI (getI a1 x9)) 16)), (u8I (shrInt (lenI (getI a1 x9)) 8)), (u8I (lenI (getI a1 x9)))] : List UInt8) ++ (getI a1 x9)) ≤ LIM)).bind fun _ => some (.inl ((wrap64 (x9 + (1 : Int))), (x10 ++ (([(u8I (shrInt (lenI (getI a1 x9)) 24)), (u8I (shrInt (lenI (getI a1 x9)) 16)), (u8I (shrInt (lenI (getI a1 x9)) 8)), (u8I (lenI (getI a1 x9)))] : List UInt8) ++ (getI a1 x9)))))))) else some (.inr (x9, x10)))

def r03_Bytes  (a0 : UInt8) (a1 : (List Str)) : Option Str :=
 ((iter (r03_Bytes_s1 a1) ((0 : Int), ([a0] : List UInt8))).bind fun b12 => (match b12 with | (x9, x10) => some x10))

theorem r03_Bytes_ok {S : Hp} (a0 : UInt8) (a1 : (List Str)) {va1 : Value} (qa1 : Sls S va1 a1) {r : Str} (h : r03_Bytes a0 a1 = some r) : Fn Tryz.prog 133 [u8V a0, va1] S (fun v S' => v = strV r) := by
 unfold r03_Bytes at h
 refine fo [.tmp 4] 39 Tryz.func133 Tryz.ntmps133 (fun o F Q hQ hN hret => ?_)
 refine sr (fun _ hK1 => ?_)
 refine an ?_
 refine nt hK1 ?_
 refine sr (fun _ hK2 => ?_)
 refine mv ?_
 refine bs ([a0] : List UInt8) el102 (fun v3 => ?_)
 refine vl (Y.convBS rfl (Rw.bsrc (k := 0 ) rfl) byt102 sty9) ?_
 refine an ?_
 refine nt hK2 ?_
 refine G.seq (fun _ hK5 => ?_)
 refine sr (fun _ hK6 => ?_)
 refine mv ?_
 refine vl (Y.lenS rfl qa1 slc58) ?_
 refine mv ?_
 refine nt hK6 ?_
 refine G.block ?_
 obtain ⟨b12, wb12, ho13⟩ := bind_some' h
 refine G.keep [14, 13, 12, 5] rfl ?_
 refine G.loopK (r03_Bytes_s1 a1) (fun s₀ E' S' L' => match s₀ with | (x9, x10) => S.le S' ∧ E' = [(14, .int .i64 x9), (13, .int .i64 (lenI a1)), (12, va1), (5, strV x10)] ∧ Rw v3 ([a0] : List UInt8) :: F = L') b12 0 (fun E₀ S₀ L₀ => ∃ (x9 : Int) (x10 : Str), S.le S₀ ∧ b12 = (x9, x10) ∧ E₀ = [(5, strV x10)] ∧ Rw v3 ([a0] : List UInt8) :: F = L₀) wb12 ?_ ?_ ?_
 ·rintro _ S29 _ ⟨x9, x10, e30, rfl, rfl, rfl⟩
  have h := ho13; clear ho13
  try dsimp only at h
  refine GX.exit_block ?_
  refine GX.then hK5 ?_
  refine sr (fun _ hK31 => ?_)
  refine mv ?_
  refine an ?_
  refine nt hK31 ?_
  refine G.ret ?_
  obtain rfl := Option.some.inj h
  exact hret _ _ _ _ 1 e30 (.cons (.tmp rfl) .nil) rfl rfl
 ·exact ⟨Hp.le_refl _, rfl, rfl⟩
 rintro ⟨x9, x10⟩ _ S7 _ ⟨e8, rfl, rfl⟩ out1 h hf1 K1 hK1 hx11
 rw [r03_Bytes_s1] at h
 replace qa1 := qa1.up e8
 refine sr (fun _ hK14 => ?_)
 refine vl (Y.ltI rfl rfl) ?_
 refine nt hK14 ?_
 refine G.seq (fun _ hK15 => ?_)
 refine G.cond _ rfl (fun c16 => ?_) (fun c16 => ?_)
 ·replace h := ite_t c16 h
  refine sk hK15 ?_
  refine G.seq (fun _ hK17 => ?_)
  refine G.block ?_
  refine sr (fun _ hK18 => ?_)
  obtain ⟨g19, h⟩ := req_bind h
  obtain ⟨ad20, p21, z22, q23⟩ := Sls.at qa1 g19
  refine vl (Y.idxS rfl z22 rfl slc58 g19) ?_
  refine vl (Y.loadSV _ rfl (At.val (At.part q23 0 1 [sV (strV (getI a1 x9))] rfl rfl)) one9) ?_
  refine an ?_
  refine nt hK18 ?_
  refine sr (fun _ hK24 => ?_)
  refine mv ?_
  refine vl (Y.lenStr (v := (getI a1 x9)) rfl sty9) ?_
  refine an ?_
  refine nt hK24 ?_
  refine G.region ?_
  refine mv ?_
  refine mv ?_
  refine vl (Y.shr_i64 rfl rfl (by decide)) ?_
  refine vl (Y.cv_i64_u8 (a := (shrInt (lenI (getI a1 x9)) 24)) rfl int3 int5) ?_
  refine mv ?_
  refine vl (Y.shr_i64 rfl rfl (by decide)) ?_
  refine vl (Y.cv_i64_u8 (a := (shrInt (lenI (getI a1 x9)) 16)) rfl int3 int5) ?_
  refine mv ?_
  refine vl (Y.shr_i64 rfl rfl (by decide)) ?_
  refine vl (Y.cv_i64_u8 (a := (shrInt (lenI (getI a1 x9)) 8)) rfl int3 int5) ?_
  refine mv ?_
  refine vl (Y.cv_i64_u8 (a := (lenI (getI a1 x9))) rfl int3 int5) ?_
  refine bs ([(u8I (shrInt (lenI (getI a1 x9)) 24)), (u8I (shrInt (lenI (getI a1 x9)) 16)), (u8I (shrInt (lenI (getI a1 x9)) 8)), (u8I (lenI (getI a1 x9)))] : List UInt8) el102 (fun v25 => ?_)
  refine vl (Y.convBS rfl (Rw.bsrc (k := 0 ) rfl) byt102 sty9) ?_
  refine mv ?_
  obtain ⟨g27, h⟩ := req_bind h
  refine vl (Y.addStr (a := ([(u8I (shrInt (lenI (getI a1 x9)) 24)), (u8I (shrInt (lenI (getI a1 x9)) 16)), (u8I (shrInt (lenI (getI a1 x9)) 8)), (u8I (lenI (getI a1 x9)))] : List UInt8)) (b := (getI a1 x9)) rfl rfl g27) ?_
  obtain ⟨g28, h⟩ := req_bind h
  refine vl (Y.addStr (a := x10) (b := (([(u8I (shrInt (lenI (getI a1 x9)) 24)), (u8I (shrInt (lenI (getI a1 x9)) 16)), (u8I (shrInt (lenI (getI a1 x9)) 8)), (u8I (lenI (getI a1 x9)))] : List UInt8) ++ (getI a1 x9))) rfl rfl g28) ?_
  refine an ?_
  refine GO.nil ?_
  refine GX.normal_block ?_
  refine GX.then hK17 ?_
  refine G.region ?_
  refine vl (Y.addI rfl rfl) ?_
  refine mv ?_
  refine GO.nil ?_
  obtain rfl := Option.some.inj h
  refine GX.keep [14, 13, 12, 5] rfl ?_
  refine GX.less 1 rfl ?_
  exact hK1 _ _ _ _ rfl ⟨e8, rfl, rfl⟩
 replace h := ite_f c16 h
 refine G.exit ?_
 refine GX.exit_then ?_
 obtain rfl := Option.some.inj h
 refine GX.keep [5] rfl ?_
 exact hx11 _ _ _ ⟨_, _, e8, (hf1 _ rfl).symm, rfl, rfl⟩

/- chirograph/chirographref03.Begin -/
def r03_Begin   : Option (Vector UInt32 8) :=
 some #v[1779033703, 3144134277, 1013904242, 2773480762, 1359893119, 2600822924, 528734635, 1541459225]

theorem r03_Begin_ok {S : Hp}  {r : (Vector UInt32 8)} (h : r03_Begin = some r) : Fn Tryz.prog 113 [] S (fun v S' => v = aggV [sU32 r]) := by
 unfold r03_Begin at h
 refine fo [.cell 0 181] 2 Tryz.func113 Tryz.ntmps113 (fun o F Q hQ hN hret => ?_)
 refine sr (fun _ hK1 => ?_)
 refine st (OS.alloc _ (by decide) zero181 (fun ad2 => ?_))
 refine nt hK1 ?_
 refine sr (fun _ hK4 => ?_)
 refine vl (Y.buildA [u32V 1779033703, u32V 3144134277, u32V 1013904242, u32V 2773480762, u32V 1359893119, u32V 2600822924, u32V 528734635, u32V 1541459225] [sU32 (#v[1779033703, 3144134277, 1013904242, 2773480762, 1359893119, 2600822924, 528734635, 1541459225])] arr181 zero181 rfl (by kernel_rfl) (by kernel_rfl)) ?_
 refine sf 0 1 [sU32 (#v[1779033703, 3144134277, 1013904242, 2773480762, 1359893119, 2600822924, 528734635, 1541459225])] (aggV_cells _) (okS_cons (ok_sU32 _) oN) size181 ?_
 refine nt hK4 ?_
 refine G.ret ?_
 obtain rfl := Option.some.inj h
 exact hret _ _ _ _ 1 l0 (.cons (.row (k := 0) rfl rfl row181 (by kernel_rfl)) .nil) rfl rfl

/- chirograph/chirographref03.Steps -/
def r03_Steps_k0 : Vector UInt32 64 := #v[1116352408, 1899447441, 3049323471, 3921009573, 961987163, 1508970993, 2453635748, 2870763221, 3624381080, 310598401, 607225278, 1426881987, 1925078388, 2162078206, 2614888103, 3248222580, 3835390401, 4022224774, 264347078, 604807628, 770255983, 1249150122, 1555081692, 1996064986, 2554220882, 2821834349, 2952996808, 3210313671, 3336571891, 3584528711, 113926993, 338241895, 666307205, 773529912, 1294757372, 1396182291, 1695183700, 1986661051, 2177026350, 2456956037, 2730485921, 2820302411, 3259730800, 3345764771, 3516065817, 3600352804, 4094571909, 275423344, 430227734, 506948616, 659060556, 883997877, 958139571, 1322822218, 1537002063, 1747873779, 1955562222, 2024104815, 2227730452, 2361852424, 2428436474, 2756734187, 3204031479, 3329325298]

def r03_Steps   : Option (Vector UInt32 64) :=
 some r03_Steps_k0

theorem r03_Steps_ok {S : Hp}  {r : (Vector UInt32 64)} (h : r03_Steps = some r) : Fn Tryz.prog 114 [] S (fun v S' => v = aggV [sU32 r]) := by
 unfold r03_Steps at h
 refine fo [.cell 0 183] 2 Tryz.func114 Tryz.ntmps114 (fun o F Q hQ hN hret => ?_)
 refine sr (fun _ hK1 => ?_)
 refine st (OS.alloc _ (by decide) zero183 (fun ad2 => ?_))
 refine nt hK1 ?_
 refine sr (fun _ hK4 => ?_)
 refine vl (Y.buildA [u32V 1116352408, u32V 1899447441, u32V 3049323471, u32V 3921009573, u32V 961987163, u32V 1508970993, u32V 2453635748, u32V 2870763221, u32V 3624381080, u32V 310598401, u32V 607225278, u32V 1426881987, u32V 1925078388, u32V 2162078206, u32V 2614888103, u32V 3248222580, u32V 3835390401, u32V 4022224774, u32V 264347078, u32V 604807628, u32V 770255983, u32V 1249150122, u32V 1555081692, u32V 1996064986, u32V 2554220882, u32V 2821834349, u32V 2952996808, u32V 3210313671, u32V 3336571891, u32V 3584528711, u32V 113926993, u32V 338241895, u32V 666307205, u32V 773529912, u32V 1294757372, u32V 1396182291, u32V 1695183700, u32V 1986661051, u32V 2177026350, u32V 2456956037, u32V 2730485921, u32V 2820302411, u32V 3259730800, u32V 3345764771, u32V 3516065817, u32V 3600352804, u32V 4094571909, u32V 275423344, u32V 430227734, u32V 506948616, u32V 659060556, u32V 883997877, u32V 958139571, u32V 1322822218, u32V 1537002063, u32V 1747873779, u32V 1955562222, u32V 2024104815, u32V 2227730452, u32V 2361852424, u32V 2428436474, u32V 2756734187, u32V 3204031479, u32V 3329325298] [sU32 r03_Steps_k0] arr183 zero183 rfl (by kernel_rfl) (by kernel_rfl)) ?_
 refine sf 0 1 [sU32 r03_Steps_k0] (aggV_cells _) (okS_cons (ok_sU32 _) oN) size183 ?_
 refine nt hK4 ?_
 refine G.ret ?_
 obtain rfl := Option.some.inj h
 exact hret _ _ _ _ 1 l0 (.cons (.row (k := 0) rfl rfl row183 (by kernel_rfl)) .nil) rfl rfl

/- chirograph/chirographref03.Padded -/
def r03_Padded_s2 (a0 : Str) : (Int × (List UInt8)) → Option ((Int × (List UInt8)) ⊕ (Int × (List UInt8)))
 | (x31, x32) => (if (decide (x31 < (8 : Int))) = true then ((req (0 ≤ (wrap64 ((56 : Int) - (wrap64 ((8 : Int) * x31)))))).bind fun _ => ((req (List.length x32 + List.length ([(hr_u64 ((u64I (lenI a0)) * 8) (wrap64 ((56 : Int) - (wrap64 ((8 : Int) * x31))))).toUInt8] : List UInt8) ≤ LIM)).bind fun _ => some (.inl ((wrap64 (x31 + (1 : Int))), (x32 ++ ([(hr_u64 ((u64I (lenI a0)) * 8) (wrap64 ((56 : Int) - (wrap64 ((8 : Int) * x31))))).toUInt8] : List UInt8)))))) else some (.inr (x31, x32)))

def r03_Padded_s1  : ((List UInt8)) → Option (((List UInt8)) ⊕ ((List UInt8)))
 | x12 => (if ((Int.tmod (lenI x12) (64 : Int)) != (56 : Int)) = true then ((req (List.length x12 + List.length ([0] : List UInt8) ≤ LIM)).bind fun _ => some (.inl (x12 ++ ([0] : List UInt8)))) else some (.inr x12))

def r03_Padded  (a0 : Str) : Option (List UInt8) :=
 ((req (List.length a0 + List.length ([128] : List UInt8) ≤ LIM)).bind fun _ => ((iter (r03_Padded_s1) (a0 ++ ([128] : List UInt8))).bind fun b15 => (match b15 with | x12 => ((iter (r03_Padded_s2 a0) ((0 : Int), x12)).bind fun b35 => (match b35 with | (x31, x32) => some x32)))))

theorem r03_Padded_ok {S : Hp} (a0 : Str) {r : (List UInt8)} (h : r03_Padded a0 = some r) : Fn Tryz.prog 115 [strV a0] S (fun v S' => Sls S' v r) := by
 unfold r03_Padded at h
 refine fo [.tmp 2] 35 Tryz.func115 Tryz.ntmps115 (fun o F Q hQ hN hret => ?_)
 refine sr (fun _ hK1 => ?_)
 refine an ?_
 refine nt hK1 ?_
 refine sr (fun _ hK2 => ?_)
 refine mv ?_
 refine st (OS.convSB (s := a0) (by decide) rfl sty9 byt102 (fun v3 => ?_))
 refine bs ([128] : List UInt8) el102 (fun v5 => ?_)
 obtain ⟨g7, h⟩ := req_bind h
 refine st (OS.append (xs := a0) (ys := ([128] : List UInt8)) 1 (by decide) rfl rfl rfl (Rw.src (k := 0) rfl) el102 src102 g7 (fun v8 => ?_))
 refine an ?_
 refine nt hK2 ?_
 refine G.seq (fun _ hK9 => ?_)
 refine G.block ?_
 obtain ⟨b15, wb15, ho16⟩ := bind_some' h
 refine G.keep [3, 0] rfl ?_
 refine G.loopK (r03_Padded_s1) (fun s₀ E' S' L' => match s₀ with | x12 => S.le S' ∧ ∃ (v13 : Value), E' = [(3, v13), (0, strV a0)] ∧ Rw v5 ([128] : List UInt8) :: Rw v13 x12 :: F = L') b15 0 (fun E₀ S₀ L₀ => ∃ (x12 : (List UInt8)) (v13 : Value), S.le S₀ ∧ b15 = x12 ∧ E₀ = [(3, v13), (0, strV a0)] ∧ Rw v5 ([128] : List UInt8) :: Rw v13 x12 :: F = L₀) wb15 ?_ ?_ ?_
 ·rintro _ S24 _ ⟨x12, v13, e25, rfl, rfl, rfl⟩
  have h := ho16; clear ho16
  try dsimp only at h
  refine GX.exit_block ?_
  refine GX.then hK9 ?_
  refine sr (fun _ hK26 => ?_)
  refine mv ?_
  refine vl (Y.lenStr (v := a0) rfl sty9) ?_
  refine vl (Y.cv_i64_u64 (a := (lenI a0)) rfl int3 int204) ?_
  refine vl (Y.mul_u64 (a := (u64I (lenI a0))) (b := 8) rfl rfl) ?_
  refine an ?_
  refine nt hK26 ?_
  refine G.seq (fun _ hK27 => ?_)
  refine sr (fun _ hK28 => ?_)
  refine an ?_
  refine nt hK28 ?_
  refine G.block ?_
  obtain ⟨b35, wb35, ho36⟩ := bind_some' h
  refine G.keep [5, 4, 3] rfl ?_
  refine G.loopK (r03_Padded_s2 a0) (fun s₀ E' S' L' => match s₀ with | (x31, x32) => S24.le S' ∧ ∃ (v33 : Value), E' = [(5, .int .i64 x31), (4, u64V ((u64I (lenI a0)) * 8)), (3, v33)] ∧ Rw v5 ([128] : List UInt8) :: Rw v33 x32 :: F = L') b35 2 (fun E₀ S₀ L₀ => ∃ (x31 : Int) (x32 : (List UInt8)) (v33 : Value), S24.le S₀ ∧ b35 = (x31, x32) ∧ E₀ = [(3, v33)] ∧ Rw v5 ([128] : List UInt8) :: Rw v33 x32 :: F = L₀) wb35 ?_ ?_ ?_
  ·rintro _ S46 _ ⟨x31, x32, v33, e47, rfl, rfl, rfl⟩
   have h := ho36; clear ho36
   try dsimp only at h
   refine GX.exit_block ?_
   refine GX.then hK27 ?_
   refine sr (fun _ hK48 => ?_)
   refine mv ?_
   refine an ?_
   refine nt hK48 ?_
   refine G.ret ?_
   refine GX.shareR 1 rfl (fun S49 e50 q51 => ?_)
   obtain rfl := Option.some.inj h
   exact hret _ _ _ _ 2 (l2 e25 (l2 e47 e50)) (.cons (.tmp rfl) .nil) q51 rfl
  ·exact ⟨Hp.le_refl _, v13, rfl, rfl⟩
  rintro ⟨x31, x32⟩ _ S29 _ ⟨e30, v33, rfl, rfl⟩ out2 h hf2 K2 hK2 hx34
  rw [r03_Padded_s2] at h
  refine G.seq (fun _ hK37 => ?_)
  refine sr (fun _ hK38 => ?_)
  refine mv ?_
  refine vl (Y.ltI rfl rfl) ?_
  refine nt hK38 ?_
  refine G.cond _ rfl (fun c39 => ?_) (fun c39 => ?_)
  ·replace h := ite_t c39 h
   refine sk hK37 ?_
   refine G.seq (fun _ hK40 => ?_)
   refine G.block ?_
   refine G.region ?_
   refine mv ?_
   refine mv ?_
   refine mv ?_
   refine vl (Y.mulI rfl rfl) ?_
   refine vl (Y.subI rfl rfl) ?_
   obtain ⟨g41, h⟩ := req_bind h
   refine vl (Y.shr_u64 (a := ((u64I (lenI a0)) * 8)) (c := (wrap64 ((56 : Int) - (wrap64 ((8 : Int) * x31))))) rfl rfl g41) ?_
   refine vl (Y.cv_u64_u8 (a := (hr_u64 ((u64I (lenI a0)) * 8) (wrap64 ((56 : Int) - (wrap64 ((8 : Int) * x31)))))) rfl int204 int5) ?_
   refine bs ([(hr_u64 ((u64I (lenI a0)) * 8) (wrap64 ((56 : Int) - (wrap64 ((8 : Int) * x31))))).toUInt8] : List UInt8) el102 (fun v42 => ?_)
   obtain ⟨g44, h⟩ := req_bind h
   refine st (OS.append (xs := x32) (ys := ([(hr_u64 ((u64I (lenI a0)) * 8) (wrap64 ((56 : Int) - (wrap64 ((8 : Int) * x31))))).toUInt8] : List UInt8)) 2 (by decide) rfl rfl rfl (Rw.src (k := 0) rfl) el102 src102 g44 (fun v45 => ?_))
   refine an ?_
   refine GO.nil ?_
   refine GX.normal_block ?_
   refine GX.then hK40 ?_
   refine G.region ?_
   refine mv ?_
   refine vl (Y.addI rfl rfl) ?_
   refine an ?_
   refine GO.nil ?_
   obtain rfl := Option.some.inj h
   refine GX.keep [5, 4, 3] rfl ?_
   refine GX.less 1 rfl ?_
   exact hK2 _ _ _ _ rfl ⟨e30, v45, rfl, rfl⟩
  replace h := ite_f c39 h
  refine G.exit ?_
  refine GX.exit_then ?_
  obtain rfl := Option.some.inj h
  refine GX.keep [3] rfl ?_
  exact hx34 _ _ _ ⟨_, _, _, e30, (hf2 _ rfl).symm, rfl, rfl⟩
 ·exact ⟨Hp.le_refl _, v8, rfl, rfl⟩
 rintro x12 _ S10 _ ⟨e11, v13, rfl, rfl⟩ out1 h hf1 K1 hK1 hx14
 rw [r03_Padded_s1] at h
 refine G.seq (fun _ hK17 => ?_)
 refine sr (fun _ hK18 => ?_)
 refine mv ?_
 refine vl (Y.lenR 1  rfl rfl slc102) ?_
 refine vl (Y.remI rfl rfl (by decide)) ?_
 refine vl (Y.neI rfl rfl) ?_
 refine nt hK18 ?_
 refine G.cond _ rfl (fun c19 => ?_) (fun c19 => ?_)
 ·replace h := ite_t c19 h
  refine sk hK17 ?_
  refine G.block ?_
  refine G.region ?_
  refine mv ?_
  refine bs ([0] : List UInt8) el102 (fun v20 => ?_)
  obtain ⟨g22, h⟩ := req_bind h
  refine st (OS.append (xs := x12) (ys := ([0] : List UInt8)) 2 (by decide) rfl rfl rfl (Rw.src (k := 0) rfl) el102 src102 g22 (fun v23 => ?_))
  refine an ?_
  refine GO.nil ?_
  refine GX.normal_block ?_
  obtain rfl := Option.some.inj h
  refine GX.keep [3, 0] rfl ?_
  refine GX.less 1 rfl ?_
  exact hK1 _ _ _ _ rfl ⟨e11, v23, rfl, rfl⟩
 replace h := ite_f c19 h
 refine G.exit ?_
 refine GX.exit_then ?_
 obtain rfl := Option.some.inj h
 refine GX.keep [3, 0] rfl ?_
 exact hx14 _ _ _ ⟨_, _, e11, (hf1 _ rfl).symm, rfl, rfl⟩

/- chirograph/chirographref03.right -/
def r03_right  (a0 : UInt32) (a1 : Int) : Option UInt32 :=
 ((req (0 ≤ a1)).bind fun _ => ((req (0 ≤ (wrap64 ((32 : Int) - a1)))).bind fun _ => some ((hr_u32 a0 a1) ||| (hl_u32 a0 (wrap64 ((32 : Int) - a1))))))

theorem r03_right_ok {S : Hp} (a0 : UInt32) (a1 : Int) {r : UInt32} (h : r03_right a0 a1 = some r) : Fn Tryz.prog 117 [u32V a0, .int .i64 a1] S (fun v S' => v = u32V r) := by
 unfold r03_right at h
 refine fo [.tmp 4] 13 Tryz.func117 Tryz.ntmps117 (fun o F Q hQ hN hret => ?_)
 refine sr (fun _ hK1 => ?_)
 refine an ?_
 refine nt hK1 ?_
 refine G.seq (fun _ hK2 => ?_)
 obtain ⟨g3, h⟩ := req_bind h
 obtain ⟨g4, h⟩ := req_bind h
 refine G.drawN 9 mixed (by kernel_rfl) ?_
 refine tn 0 rfl hQ (fun _ _ _ => Y.move rfl) ?_
 refine tn 1 rfl hQ (fun _ _ _ => Y.move rfl) ?_
 refine tn 2 rfl hQ (fun _ _ _ => Y.shr_u32 (a := a0) (c := a1) rfl rfl g3) ?_
 refine tn 3 rfl hQ (fun _ _ _ => Y.move rfl) ?_
 refine tn 4 rfl hQ (fun _ _ _ => Y.move rfl) ?_
 refine tn 5 rfl hQ (fun _ _ _ => Y.subI rfl rfl) ?_
 refine tn 6 rfl hQ (fun _ _ _ => Y.shl_u32 (a := a0) (c := (wrap64 ((32 : Int) - a1))) rfl rfl g4) ?_
 refine tn 7 rfl hQ (fun _ _ _ => Y.or_u32 (a := (hr_u32 a0 a1)) (b := (hl_u32 a0 (wrap64 ((32 : Int) - a1)))) rfl rfl) ?_
 refine tn 8 rfl hQ (fun _ _ _ => Y.assign rfl) ?_
 refine dn ?_
 refine GX.then hK2 ?_
 refine G.ret ?_
 obtain rfl := Option.some.inj h
 exact hret _ _ _ _ 0 l0 (.cons (.tmp rfl) .nil) rfl rfl

/- chirograph/chirographref03.Words -/
def r03_Words_s2  : (Int × (Vector UInt32 64)) → Option ((Int × (Vector UInt32 64)) ⊕ (Int × (Vector UInt32 64)))
 | (x47, x48) => (if (decide (x47 < (64 : Int))) = true then ((req ((0 : Int) ≤ (wrap64 (x47 - (15 : Int))) ∧ (wrap64 (x47 - (15 : Int))) < (64 : Nat))).bind fun _ => ((r03_right (getV x48 (wrap64 (x47 - (15 : Int)))) (7 : Int)).bind fun t58 => ((req ((0 : Int) ≤ (wrap64 (x47 - (15 : Int))) ∧ (wrap64 (x47 - (15 : Int))) < (64 : Nat))).bind fun _ => ((r03_right (getV x48 (wrap64 (x47 - (15 : Int)))) (18 : Int)).bind fun t64 => ((req ((0 : Int) ≤ (wrap64 (x47 - (15 : Int))) ∧ (wrap64 (x47 - (15 : Int))) < (64 : Nat))).bind fun _ => ((req ((0 : Int) ≤ (wrap64 (x47 - (2 : Int))) ∧ (wrap64 (x47 - (2 : Int))) < (64 : Nat))).bind fun _ => ((r03_right (getV x48 (wrap64 (x47 - (2 : Int)))) (17 : Int)).bind fun t80 => ((req ((0 : Int) ≤ (wrap64 (x47 - (2 : Int))) ∧ (wrap64 (x47 - (2 : Int))) < (64 : Nat))).bind fun _ => ((r03_right (getV x48 (wrap64 (x47 - (2 : Int)))) (19 : Int)).bind fun t86 => ((req ((0 : Int) ≤ (wrap64 (x47 - (2 : Int))) ∧ (wrap64 (x47 - (2 : Int))) < (64 : Nat))).bind fun _ => ((req ((0 : Int) ≤ (wrap64 (x47 - (16 : Int))) ∧ (wrap64 (x47 - (16 : Int))) < (64 : Nat))).bind fun _ => ((req ((0 : Int) ≤ (wrap64 (x47 - (7 : Int))) ∧ (wrap64 (x47 - (7 : Int))) < (64 : Nat))).bind fun _ => ((req ((0 : Int) ≤ x47 ∧ x47 < (64 : Nat))).bind fun _ => some (.inl ((wrap64 (x47 + (1 : Int))), (setV x48 x47 ((((getV x48 (wrap64 (x47 - (16 : Int)))) + ((t58 ^^^ t64) ^^^ (hr_u32 (getV x48 (wrap64 (x47 - (15 : Int)))) 3))) + (getV x48 (wrap64 (x47 - (7 : Int))))) + ((t80 ^^^ t86) ^^^ (hr_u32 (getV x48 (wrap64 (x47 - (2 : Int)))) 10))))))))))))))))))) else some (.inr (x47, x48)))

def r03_Words_s1 (a0 : (List UInt8)) : (Int × (Vector UInt32 64)) → Option ((Int × (Vector UInt32 64)) ⊕ (Int × (Vector UInt32 64)))
 | (x11, x12) => (if (decide (x11 < (16 : Int))) = true then ((req ((0 : Int) ≤ (wrap64 ((4 : Int) * x11)) ∧ (wrap64 ((4 : Int) * x11)) < lenI a0)).bind fun _ => ((req ((0 : Int) ≤ (wrap64 ((wrap64 ((4 : Int) * x11)) + (1 : Int))) ∧ (wrap64 ((wrap64 ((4 : Int) * x11)) + (1 : Int))) < lenI a0)).bind fun _ => ((req ((0 : Int) ≤ (wrap64 ((wrap64 ((4 : Int) * x11)) + (2 : Int))) ∧ (wrap64 ((wrap64 ((4 : Int) * x11)) + (2 : Int))) < lenI a0)).bind fun _ => ((req ((0 : Int) ≤ (wrap64 ((wrap64 ((4 : Int) * x11)) + (3 : Int))) ∧ (wrap64 ((wrap64 ((4 : Int) * x11)) + (3 : Int))) < lenI a0)).bind fun _ => ((req ((0 : Int) ≤ x11 ∧ x11 < (64 : Nat))).bind fun _ => some (.inl ((wrap64 (x11 + (1 : Int))), (setV x12 x11 ((((hl_u32 (((getI a0 (wrap64 ((4 : Int) * x11))).toUInt32) * 1) 24) + (hl_u32 (((getI a0 (wrap64 ((wrap64 ((4 : Int) * x11)) + (1 : Int)))).toUInt32) * 1) 16)) + (hl_u32 (((getI a0 (wrap64 ((wrap64 ((4 : Int) * x11)) + (2 : Int)))).toUInt32) * 1) 8)) + ((getI a0 (wrap64 ((wrap64 ((4 : Int) * x11)) + (3 : Int)))).toUInt32)))))))))) else some (.inr (x11, x12)))

def r03_Words  (a0 : (List UInt8)) : Option (Vector UInt32 64) :=
 ((iter (r03_Words_s1 a0) ((0 : Int), (Vector.replicate 64 0))).bind fun b14 => (match b14 with | (x11, x12) => ((iter (r03_Words_s2) ((16 : Int), x12)).bind fun b50 => (match b50 with | (x47, x48) => some x48))))

theorem r03_Words_ok {S : Hp} (a0 : (List UInt8)) {va0 : Value} (qa0 : Sls S va0 a0) {r : (Vector UInt32 64)} (h : r03_Words a0 = some r) : Fn Tryz.prog 116 [va0] S (fun v S' => v = aggV [sU32 r]) := by
 unfold r03_Words at h
 refine fo [.cell 2 183] 105 Tryz.func116 Tryz.ntmps116 (fun o F Q hQ hN hret => ?_)
 refine sr (fun _ hK1 => ?_)
 refine st (OS.alloc _ (by decide) zero183 (fun ad2 => ?_))
 refine nt hK1 ?_
 refine sr (fun _ hK4 => ?_)
 refine vl (Y.buildA [] [sU32 (Vector.replicate 64 0)] arr183 zero183 rfl (by kernel_rfl) (by kernel_rfl)) ?_
 refine st (OS.alloc _ (by decide) zero183 (fun ad5 => ?_))
 refine sf 0 1 [sU32 (Vector.replicate 64 0)] (aggV_cells _) (okS_cons (ok_sU32 _) oN) size183 ?_
 refine nt hK4 ?_
 refine G.seq (fun _ hK7 => ?_)
 refine sr (fun _ hK8 => ?_)
 refine an ?_
 refine nt hK8 ?_
 refine G.block ?_
 obtain ⟨b14, wb14, ho15⟩ := bind_some' h
 refine G.keep [4, 3, 2, 0] rfl ?_
 refine G.loopK (r03_Words_s1 a0) (fun s₀ E' S' L' => match s₀ with | (x11, x12) => S.le S' ∧ E' = [(4, .int .i64 x11), (3, .pointer (some ⟨ad5, 0, none⟩)), (2, .pointer (some ⟨ad2, 0, none⟩)), (0, va0)] ∧ Blk ad5 [sU32 x12] :: Blk ad2 [sU32 (Vector.replicate 64 0)] :: F = L') b14 0 (fun E₀ S₀ L₀ => ∃ (x11 : Int) (x12 : (Vector UInt32 64)), S.le S₀ ∧ b14 = (x11, x12) ∧ E₀ = [(3, .pointer (some ⟨ad5, 0, none⟩)), (2, .pointer (some ⟨ad2, 0, none⟩))] ∧ Blk ad5 [sU32 x12] :: Blk ad2 [sU32 (Vector.replicate 64 0)] :: F = L₀) wb14 ?_ ?_ ?_
 ·rintro _ S41 _ ⟨x11, x12, e42, rfl, rfl, rfl⟩
  have h := ho15; clear ho15
  try dsimp only at h
  refine GX.exit_block ?_
  refine GX.then hK7 ?_
  refine G.seq (fun _ hK43 => ?_)
  refine sr (fun _ hK44 => ?_)
  refine an ?_
  refine nt hK44 ?_
  refine G.block ?_
  obtain ⟨b50, wb50, ho51⟩ := bind_some' h
  refine G.keep [5, 3, 2] rfl ?_
  refine G.loopK (r03_Words_s2) (fun s₀ E' S' L' => match s₀ with | (x47, x48) => S41.le S' ∧ E' = [(5, .int .i64 x47), (3, .pointer (some ⟨ad5, 0, none⟩)), (2, .pointer (some ⟨ad2, 0, none⟩))] ∧ Blk ad5 [sU32 x48] :: Blk ad2 [sU32 (Vector.replicate 64 0)] :: F = L') b50 2 (fun E₀ S₀ L₀ => ∃ (x47 : Int) (x48 : (Vector UInt32 64)), S41.le S₀ ∧ b50 = (x47, x48) ∧ E₀ = [(3, .pointer (some ⟨ad5, 0, none⟩)), (2, .pointer (some ⟨ad2, 0, none⟩))] ∧ Blk ad5 [sU32 x48] :: Blk ad2 [sU32 (Vector.replicate 64 0)] :: F = L₀) wb50 ?_ ?_ ?_
  ·rintro _ S103 _ ⟨x47, x48, e104, rfl, rfl, rfl⟩
   have h := ho51; clear ho51
   try dsimp only at h
   refine GX.exit_block ?_
   refine GX.then hK43 ?_
   refine sr (fun _ hK105 => ?_)
   refine lb 0 0 1 [sU32 x48] row183 ?_
   refine sf 1 1 [sU32 x48] (aggV_cells _) (okS_cons (ok_sU32 _) oN) size183 ?_
   refine nt hK105 ?_
   refine G.ret ?_
   obtain rfl := Option.some.inj h
   exact hret _ _ _ _ 2 (l2 e42 e104) (.cons (.row (k := 1) rfl rfl row183 (by kernel_rfl)) .nil) rfl rfl
  ·exact ⟨Hp.le_refl _, rfl, rfl⟩
  rintro ⟨x47, x48⟩ _ S45 _ ⟨e46, rfl, rfl⟩ out2 h hf2 K2 hK2 hx49
  rw [r03_Words_s2] at h
  refine G.seq (fun _ hK52 => ?_)
  refine sr (fun _ hK53 => ?_)
  refine mv ?_
  refine vl (Y.ltI rfl rfl) ?_
  refine nt hK53 ?_
  refine G.cond _ rfl (fun c54 => ?_) (fun c54 => ?_)
  ·replace h := ite_t c54 h
   refine sk hK52 ?_
   refine G.seq (fun _ hK55 => ?_)
   refine G.block ?_
   refine G.seq (fun _ hK56 => ?_)
   obtain ⟨g57, h⟩ := req_bind h
   obtain ⟨t58, wt58, h⟩ := bind_some' h
   obtain ⟨g63, h⟩ := req_bind h
   obtain ⟨t64, wt64, h⟩ := bind_some' h
   obtain ⟨g69, h⟩ := req_bind h
   refine G.drawN 18 mixed (by kernel_rfl) ?_
   refine tn 0 rfl hQ (fun _ _ _ => Y.move rfl) ?_
   refine tn 1 rfl hQ (fun _ _ _ => Y.subI rfl rfl) ?_
   refine tn 2 rfl hQ (fun _ _ _ => Y.idxA rfl rfl arr183 g57) ?_
   refine tn 3 rfl hQ (fun S₀ X₀ e₀ => Y.loadE (X₀.length + 0)  0 _ _ rfl (Lk rfl) rfl rfl (at_sU32 _ _ g57) one180) ?_
   refine tn 5 rfl hQ (fun _ _ _ => Y.move rfl) ?_
   refine tn 6 rfl hQ (fun _ _ _ => Y.subI rfl rfl) ?_
   refine tn 7 rfl hQ (fun _ _ _ => Y.idxA rfl rfl arr183 g63) ?_
   refine tn 8 rfl hQ (fun S₀ X₀ e₀ => Y.loadE (X₀.length + 0)  0 _ _ rfl (Lk rfl) rfl rfl (at_sU32 _ _ g63) one180) ?_
   refine tn 11 rfl hQ (fun _ _ _ => Y.move rfl) ?_
   refine tn 12 rfl hQ (fun _ _ _ => Y.subI rfl rfl) ?_
   refine tn 13 rfl hQ (fun _ _ _ => Y.idxA rfl rfl arr183 g69) ?_
   refine tn 14 rfl hQ (fun S₀ X₀ e₀ => Y.loadE (X₀.length + 0)  0 _ _ rfl (Lk rfl) rfl rfl (at_sU32 _ _ g69) one180) ?_
   refine tn 15 rfl hQ (fun _ _ _ => Y.shr_u32 (a := (getV x48 (wrap64 (x47 - (15 : Int))))) (c := 3) rfl rfl (by decide)) ?_
   refine g1 4 ?_
   refine n1 rfl (cl fb117 (r03_right_ok (getV x48 (wrap64 (x47 - (15 : Int)))) (7 : Int) wt58) (fun v70 S71 e72 z73 => ⟨⟨[], .refl, e72⟩, ?_⟩))
   obtain rfl := z73
   refine g1 9 ?_
   refine n1 rfl (cl fb117 (r03_right_ok (getV x48 (wrap64 (x47 - (15 : Int)))) (18 : Int) wt64) (fun v74 S75 e76 z77 => ⟨⟨[], .refl, (l2 e72 e76)⟩, ?_⟩))
   obtain rfl := z77
   refine tn 10 rfl hQ (fun _ _ _ => Y.xor_u32 (a := t58) (b := t64) rfl rfl) ?_
   refine tn 16 rfl hQ (fun _ _ _ => Y.xor_u32 (a := (t58 ^^^ t64)) (b := (hr_u32 (getV x48 (wrap64 (x47 - (15 : Int)))) 3)) rfl rfl) ?_
   refine tn 17 rfl hQ (fun _ _ _ => Y.assign rfl) ?_
   refine dn ?_
   refine GX.then hK56 ?_
   refine G.seq (fun _ hK78 => ?_)
   obtain ⟨g79, h⟩ := req_bind h
   obtain ⟨t80, wt80, h⟩ := bind_some' h
   obtain ⟨g85, h⟩ := req_bind h
   obtain ⟨t86, wt86, h⟩ := bind_some' h
   obtain ⟨g91, h⟩ := req_bind h
   refine G.drawN 18 mixed (by kernel_rfl) ?_
   refine tn 0 rfl hQ (fun _ _ _ => Y.move rfl) ?_
   refine tn 1 rfl hQ (fun _ _ _ => Y.subI rfl rfl) ?_
   refine tn 2 rfl hQ (fun _ _ _ => Y.idxA rfl rfl arr183 g79) ?_
   refine tn 3 rfl hQ (fun S₀ X₀ e₀ => Y.loadE (X₀.length + 0)  0 _ _ rfl (Lk rfl) rfl rfl (at_sU32 _ _ g79) one180) ?_
   refine tn 5 rfl hQ (fun _ _ _ => Y.move rfl) ?_
   refine tn 6 rfl hQ (fun _ _ _ => Y.subI rfl rfl) ?_
   refine tn 7 rfl hQ (fun _ _ _ => Y.idxA rfl rfl arr183 g85) ?_
   refine tn 8 rfl hQ (fun S₀ X₀ e₀ => Y.loadE (X₀.length + 0)  0 _ _ rfl (Lk rfl) rfl rfl (at_sU32 _ _ g85) one180) ?_
   refine tn 11 rfl hQ (fun _ _ _ => Y.move rfl) ?_
   refine tn 12 rfl hQ (fun _ _ _ => Y.subI rfl rfl) ?_
   refine tn 13 rfl hQ (fun _ _ _ => Y.idxA rfl rfl arr183 g91) ?_
   refine tn 14 rfl hQ (fun S₀ X₀ e₀ => Y.loadE (X₀.length + 0)  0 _ _ rfl (Lk rfl) rfl rfl (at_sU32 _ _ g91) one180) ?_
   refine tn 15 rfl hQ (fun _ _ _ => Y.shr_u32 (a := (getV x48 (wrap64 (x47 - (2 : Int))))) (c := 10) rfl rfl (by decide)) ?_
   refine g1 4 ?_
   refine n1 rfl (cl fb117 (r03_right_ok (getV x48 (wrap64 (x47 - (2 : Int)))) (17 : Int) wt80) (fun v92 S93 e94 z95 => ⟨⟨[], .refl, e94⟩, ?_⟩))
   obtain rfl := z95
   refine g1 9 ?_
   refine n1 rfl (cl fb117 (r03_right_ok (getV x48 (wrap64 (x47 - (2 : Int)))) (19 : Int) wt86) (fun v96 S97 e98 z99 => ⟨⟨[], .refl, (l2 e94 e98)⟩, ?_⟩))
   obtain rfl := z99
   refine tn 10 rfl hQ (fun _ _ _ => Y.xor_u32 (a := t80) (b := t86) rfl rfl) ?_
   refine tn 16 rfl hQ (fun _ _ _ => Y.xor_u32 (a := (t80 ^^^ t86)) (b := (hr_u32 (getV x48 (wrap64 (x47 - (2 : Int)))) 10)) rfl rfl) ?_
   refine tn 17 rfl hQ (fun _ _ _ => Y.assign rfl) ?_
   refine dn ?_
   refine GX.then hK78 ?_
   obtain ⟨g100, h⟩ := req_bind h
   obtain ⟨g101, h⟩ := req_bind h
   obtain ⟨g102, h⟩ := req_bind h
   refine G.drawS 15 _ ((fun _ => True) :: Blk ad2 [sU32 (Vector.replicate 64 0)] :: F) mixed .refl (by kernel_rfl) ?_
   refine tx 0 rfl (.lose .refl) hQ (fun _ _ _ => Y.move rfl) ?_
   refine tx 1 rfl (.lose .refl) hQ (fun _ _ _ => Y.move rfl) ?_
   refine tx 2 rfl (.lose .refl) hQ (fun _ _ _ => Y.subI rfl rfl) ?_
   refine tx 3 rfl (.lose .refl) hQ (fun _ _ _ => Y.idxA rfl rfl arr183 g100) ?_
   refine tk 4 [4, 15] rfl hQ Gd.none (fun S₀ X₀ e₀ => Y.loadE (X₀.length + 0)  0 _ _ rfl (Lk rfl) rfl rfl (at_sU32 _ _ g100) one180) ?_
   refine tx 5 rfl (.lose .refl) hQ (fun _ _ _ => Y.move rfl) ?_
   refine tx 6 rfl (.lose .refl) hQ (fun _ _ _ => Y.add_u32 (a := (getV x48 (wrap64 (x47 - (16 : Int))))) (b := ((t58 ^^^ t64) ^^^ (hr_u32 (getV x48 (wrap64 (x47 - (15 : Int)))) 3))) rfl rfl) ?_
   refine tx 7 rfl (.lose .refl) hQ (fun _ _ _ => Y.move rfl) ?_
   refine tx 8 rfl (.lose .refl) hQ (fun _ _ _ => Y.subI rfl rfl) ?_
   refine tx 9 rfl (.lose .refl) hQ (fun _ _ _ => Y.idxA rfl rfl arr183 g101) ?_
   refine tk 10 [10, 15] rfl hQ Gd.none (fun S₀ X₀ e₀ => Y.loadE (X₀.length + 0)  0 _ _ rfl (Lk rfl) rfl rfl (at_sU32 _ _ g101) one180) ?_
   refine tx 11 rfl (.lose .refl) hQ (fun _ _ _ => Y.add_u32 (a := ((getV x48 (wrap64 (x47 - (16 : Int)))) + ((t58 ^^^ t64) ^^^ (hr_u32 (getV x48 (wrap64 (x47 - (15 : Int)))) 3)))) (b := (getV x48 (wrap64 (x47 - (7 : Int))))) rfl rfl) ?_
   refine tx 12 rfl (.lose .refl) hQ (fun _ _ _ => Y.move rfl) ?_
   refine tx 13 rfl (.lose .refl) hQ (fun _ _ _ => Y.add_u32 (a := (((getV x48 (wrap64 (x47 - (16 : Int)))) + ((t58 ^^^ t64) ^^^ (hr_u32 (getV x48 (wrap64 (x47 - (15 : Int)))) 3))) + (getV x48 (wrap64 (x47 - (7 : Int)))))) (b := ((t80 ^^^ t86) ^^^ (hr_u32 (getV x48 (wrap64 (x47 - (2 : Int)))) 10))) rfl rfl) ?_
   refine tx 14 rfl (.lose .refl) hQ (fun _ _ _ => Y.idxA rfl rfl arr183 g102) ?_
   refine g1 15 ?_
   refine n2 rfl (OS.storeE 0 0 (sU32 (setV x48 x47 ((((getV x48 (wrap64 (x47 - (16 : Int)))) + ((t58 ^^^ t64) ^^^ (hr_u32 (getV x48 (wrap64 (x47 - (15 : Int)))) 3))) + (getV x48 (wrap64 (x47 - (7 : Int))))) + ((t80 ^^^ t86) ^^^ (hr_u32 (getV x48 (wrap64 (x47 - (2 : Int)))) 10))))) [sU32 (setV x48 x47 ((((getV x48 (wrap64 (x47 - (16 : Int)))) + ((t58 ^^^ t64) ^^^ (hr_u32 (getV x48 (wrap64 (x47 - (15 : Int)))) 3))) + (getV x48 (wrap64 (x47 - (7 : Int))))) + ((t80 ^^^ t86) ^^^ (hr_u32 (getV x48 (wrap64 (x47 - (2 : Int)))) 10))))] _ rfl rfl rfl rfl rfl rfl (lt_of_bnd g102) (set_sU32 _ _ _) rfl size180 ⟨⟨[], (.lose .refl), l0⟩, ?_⟩)
   refine dn ?_
   refine GX.normal_block ?_
   refine GX.then hK55 ?_
   refine G.region ?_
   refine mv ?_
   refine vl (Y.addI rfl rfl) ?_
   refine an ?_
   refine GO.nil ?_
   obtain rfl := Option.some.inj h
   refine GX.keep [5, 3, 2] rfl ?_
   exact hK2 _ _ _ _ rfl ⟨(l2 e46 (l2 e72 (l2 e76 (l2 e94 e98)))), rfl, rfl⟩
  replace h := ite_f c54 h
  refine G.exit ?_
  refine GX.exit_then ?_
  obtain rfl := Option.some.inj h
  refine GX.keep [3, 2] rfl ?_
  exact hx49 _ _ _ ⟨_, _, e46, (hf2 _ rfl).symm, rfl, rfl⟩
 ·exact ⟨Hp.le_refl _, rfl, rfl⟩
 rintro ⟨x11, x12⟩ _ S9 _ ⟨e10, rfl, rfl⟩ out1 h hf1 K1 hK1 hx13
 rw [r03_Words_s1] at h
 replace qa0 := qa0.up e10
 refine G.seq (fun _ hK16 => ?_)
 refine sr (fun _ hK17 => ?_)
 refine mv ?_
 refine vl (Y.ltI rfl rfl) ?_
 refine nt hK17 ?_
 refine G.cond _ rfl (fun c18 => ?_) (fun c18 => ?_)
 ·replace h := ite_t c18 h
  refine sk hK16 ?_
  refine G.seq (fun _ hK19 => ?_)
  refine G.block ?_
  obtain ⟨g20, h⟩ := req_bind h
  obtain ⟨ad21, p22, z23, q24⟩ := Sls.at qa0 g20
  obtain ⟨g25, h⟩ := req_bind h
  obtain ⟨ad26, p27, z28, q29⟩ := Sls.at qa0 g25
  obtain ⟨g30, h⟩ := req_bind h
  obtain ⟨ad31, p32, z33, q34⟩ := Sls.at qa0 g30
  obtain ⟨g35, h⟩ := req_bind h
  obtain ⟨ad36, p37, z38, q39⟩ := Sls.at qa0 g35
  obtain ⟨g40, h⟩ := req_bind h
  refine G.drawS 38 _ ((fun _ => True) :: Blk ad2 [sU32 (Vector.replicate 64 0)] :: F) mixed .refl (by kernel_rfl) ?_
  refine tx 0 rfl (.lose .refl) hQ (fun _ _ _ => Y.move rfl) ?_
  refine tx 1 rfl (.lose .refl) hQ (fun _ _ _ => Y.move rfl) ?_
  refine tx 2 rfl (.lose .refl) hQ (fun _ _ _ => Y.move rfl) ?_
  refine tx 3 rfl (.lose .refl) hQ (fun _ _ _ => Y.mulI rfl rfl) ?_
  refine tx 4 rfl (.lose .refl) hQ (fun _ _ _ => Y.idxS rfl z23 rfl slc102 g20) ?_
  refine tx 5 rfl (.lose .refl) hQ (fun S₀ X₀ e₀ => Y.loadSV _ rfl (At.val (At.part (q24.up e₀) 0 1 [sV (u8V (getI a0 (wrap64 ((4 : Int) * x11))))] rfl rfl)) one5) ?_
  refine tx 6 rfl (.lose .refl) hQ (fun _ _ _ => Y.cv_u8_u32 (a := (getI a0 (wrap64 ((4 : Int) * x11)))) rfl int5 int180) ?_
  refine tx 7 rfl (.lose .refl) hQ (fun _ _ _ => Y.mul_u32 (a := (getI a0 (wrap64 ((4 : Int) * x11))).toUInt32) (b := 1) rfl rfl) ?_
  refine tx 8 rfl (.lose .refl) hQ (fun _ _ _ => Y.shl_u32 (a := (((getI a0 (wrap64 ((4 : Int) * x11))).toUInt32) * 1)) (c := 24) rfl rfl (by decide)) ?_
  refine tx 9 rfl (.lose .refl) hQ (fun _ _ _ => Y.move rfl) ?_
  refine tx 10 rfl (.lose .refl) hQ (fun _ _ _ => Y.move rfl) ?_
  refine tx 11 rfl (.lose .refl) hQ (fun _ _ _ => Y.mulI rfl rfl) ?_
  refine tx 12 rfl (.lose .refl) hQ (fun _ _ _ => Y.addI rfl rfl) ?_
  refine tx 13 rfl (.lose .refl) hQ (fun _ _ _ => Y.idxS rfl z28 rfl slc102 g25) ?_
  refine tx 14 rfl (.lose .refl) hQ (fun S₀ X₀ e₀ => Y.loadSV _ rfl (At.val (At.part (q29.up e₀) 0 1 [sV (u8V (getI a0 (wrap64 ((wrap64 ((4 : Int) * x11)) + (1 : Int)))))] rfl rfl)) one5) ?_
  refine tx 15 rfl (.lose .refl) hQ (fun _ _ _ => Y.cv_u8_u32 (a := (getI a0 (wrap64 ((wrap64 ((4 : Int) * x11)) + (1 : Int))))) rfl int5 int180) ?_
  refine tx 16 rfl (.lose .refl) hQ (fun _ _ _ => Y.mul_u32 (a := (getI a0 (wrap64 ((wrap64 ((4 : Int) * x11)) + (1 : Int)))).toUInt32) (b := 1) rfl rfl) ?_
  refine tx 17 rfl (.lose .refl) hQ (fun _ _ _ => Y.shl_u32 (a := (((getI a0 (wrap64 ((wrap64 ((4 : Int) * x11)) + (1 : Int)))).toUInt32) * 1)) (c := 16) rfl rfl (by decide)) ?_
  refine tx 18 rfl (.lose .refl) hQ (fun _ _ _ => Y.add_u32 (a := (hl_u32 (((getI a0 (wrap64 ((4 : Int) * x11))).toUInt32) * 1) 24)) (b := (hl_u32 (((getI a0 (wrap64 ((wrap64 ((4 : Int) * x11)) + (1 : Int)))).toUInt32) * 1) 16)) rfl rfl) ?_
  refine tx 19 rfl (.lose .refl) hQ (fun _ _ _ => Y.move rfl) ?_
  refine tx 20 rfl (.lose .refl) hQ (fun _ _ _ => Y.move rfl) ?_
  refine tx 21 rfl (.lose .refl) hQ (fun _ _ _ => Y.mulI rfl rfl) ?_
  refine tx 22 rfl (.lose .refl) hQ (fun _ _ _ => Y.addI rfl rfl) ?_
  refine tx 23 rfl (.lose .refl) hQ (fun _ _ _ => Y.idxS rfl z33 rfl slc102 g30) ?_
  refine tx 24 rfl (.lose .refl) hQ (fun S₀ X₀ e₀ => Y.loadSV _ rfl (At.val (At.part (q34.up e₀) 0 1 [sV (u8V (getI a0 (wrap64 ((wrap64 ((4 : Int) * x11)) + (2 : Int)))))] rfl rfl)) one5) ?_
  refine tx 25 rfl (.lose .refl) hQ (fun _ _ _ => Y.cv_u8_u32 (a := (getI a0 (wrap64 ((wrap64 ((4 : Int) * x11)) + (2 : Int))))) rfl int5 int180) ?_
  refine tx 26 rfl (.lose .refl) hQ (fun _ _ _ => Y.mul_u32 (a := (getI a0 (wrap64 ((wrap64 ((4 : Int) * x11)) + (2 : Int)))).toUInt32) (b := 1) rfl rfl) ?_
  refine tx 27 rfl (.lose .refl) hQ (fun _ _ _ => Y.shl_u32 (a := (((getI a0 (wrap64 ((wrap64 ((4 : Int) * x11)) + (2 : Int)))).toUInt32) * 1)) (c := 8) rfl rfl (by decide)) ?_
  refine tx 28 rfl (.lose .refl) hQ (fun _ _ _ => Y.add_u32 (a := ((hl_u32 (((getI a0 (wrap64 ((4 : Int) * x11))).toUInt32) * 1) 24) + (hl_u32 (((getI a0 (wrap64 ((wrap64 ((4 : Int) * x11)) + (1 : Int)))).toUInt32) * 1) 16))) (b := (hl_u32 (((getI a0 (wrap64 ((wrap64 ((4 : Int) * x11)) + (2 : Int)))).toUInt32) * 1) 8)) rfl rfl) ?_
  refine tx 29 rfl (.lose .refl) hQ (fun _ _ _ => Y.move rfl) ?_
  refine tx 30 rfl (.lose .refl) hQ (fun _ _ _ => Y.move rfl) ?_
  refine tx 31 rfl (.lose .refl) hQ (fun _ _ _ => Y.mulI rfl rfl) ?_
  refine tx 32 rfl (.lose .refl) hQ (fun _ _ _ => Y.addI rfl rfl) ?_
  refine tx 33 rfl (.lose .refl) hQ (fun _ _ _ => Y.idxS rfl z38 rfl slc102 g35) ?_
  refine tx 34 rfl (.lose .refl) hQ (fun S₀ X₀ e₀ => Y.loadSV _ rfl (At.val (At.part (q39.up e₀) 0 1 [sV (u8V (getI a0 (wrap64 ((wrap64 ((4 : Int) * x11)) + (3 : Int)))))] rfl rfl)) one5) ?_
  refine tx 35 rfl (.lose .refl) hQ (fun _ _ _ => Y.cv_u8_u32 (a := (getI a0 (wrap64 ((wrap64 ((4 : Int) * x11)) + (3 : Int))))) rfl int5 int180) ?_
  refine tx 36 rfl (.lose .refl) hQ (fun _ _ _ => Y.add_u32 (a := (((hl_u32 (((getI a0 (wrap64 ((4 : Int) * x11))).toUInt32) * 1) 24) + (hl_u32 (((getI a0 (wrap64 ((wrap64 ((4 : Int) * x11)) + (1 : Int)))).toUInt32) * 1) 16)) + (hl_u32 (((getI a0 (wrap64 ((wrap64 ((4 : Int) * x11)) + (2 : Int)))).toUInt32) * 1) 8))) (b := (getI a0 (wrap64 ((wrap64 ((4 : Int) * x11)) + (3 : Int)))).toUInt32) rfl rfl) ?_
  refine tx 37 rfl (.lose .refl) hQ (fun _ _ _ => Y.idxA rfl rfl arr183 g40) ?_
  refine g1 38 ?_
  refine n2 rfl (OS.storeE 0 0 (sU32 (setV x12 x11 ((((hl_u32 (((getI a0 (wrap64 ((4 : Int) * x11))).toUInt32) * 1) 24) + (hl_u32 (((getI a0 (wrap64 ((wrap64 ((4 : Int) * x11)) + (1 : Int)))).toUInt32) * 1) 16)) + (hl_u32 (((getI a0 (wrap64 ((wrap64 ((4 : Int) * x11)) + (2 : Int)))).toUInt32) * 1) 8)) + ((getI a0 (wrap64 ((wrap64 ((4 : Int) * x11)) + (3 : Int)))).toUInt32)))) [sU32 (setV x12 x11 ((((hl_u32 (((getI a0 (wrap64 ((4 : Int) * x11))).toUInt32) * 1) 24) + (hl_u32 (((getI a0 (wrap64 ((wrap64 ((4 : Int) * x11)) + (1 : Int)))).toUInt32) * 1) 16)) + (hl_u32 (((getI a0 (wrap64 ((wrap64 ((4 : Int) * x11)) + (2 : Int)))).toUInt32) * 1) 8)) + ((getI a0 (wrap64 ((wrap64 ((4 : Int) * x11)) + (3 : Int)))).toUInt32)))] _ rfl rfl rfl rfl rfl rfl (lt_of_bnd g40) (set_sU32 _ _ _) rfl size180 ⟨⟨[], (.lose .refl), l0⟩, ?_⟩)
  refine dn ?_
  refine GX.normal_block ?_
  refine GX.then hK19 ?_
  refine G.region ?_
  refine mv ?_
  refine vl (Y.addI rfl rfl) ?_
  refine an ?_
  refine GO.nil ?_
  obtain rfl := Option.some.inj h
  refine GX.keep [4, 3, 2, 0] rfl ?_
  exact hK1 _ _ _ _ rfl ⟨e10, rfl, rfl⟩
 replace h := ite_f c18 h
 refine G.exit ?_
 refine GX.exit_then ?_
 obtain rfl := Option.some.inj h
 refine GX.keep [3, 2] rfl ?_
 exact hx13 _ _ _ ⟨_, _, e10, (hf1 _ rfl).symm, rfl, rfl⟩

end
end Go.Ch
end
section
/- Functions of the program: what each comes to, proved. -/
set_option linter.unusedVariables false
set_option linter.unusedSimpArgs false
set_option maxRecDepth 100000
set_option maxHeartbeats 4000000
namespace Go.Ch
open Go.RowKit (wrap64)
open Go.Proofs
noncomputable section
/- chirograph/chirographref01.Bit -/
def r01_Bit_s1  : (Int × Int) → Option ((Int × Int) ⊕ (Int × Int))
 | (x19, x20) => (if (decide (x19 < (7 : Int))) = true then some (.inl ((wrap64 (x19 + (1 : Int))), (wrap64 (Int.tdiv x20 (2 : Int))))) else some (.inr (x19, x20)))

def r01_Bit  (a0 : Lab) (a1 : Int) : Option Int :=
 ((if (decide (a1 < (0 : Int))) = true then some true else some (decide ((255 : Int) < a1))).bind fun b6 => (if b6 = true then some (0 : Int) else ((req ((0 : Int) ≤ (wrap64 (Int.tdiv a1 (8 : Int))) ∧ (wrap64 (Int.tdiv a1 (8 : Int))) < (32 : Nat))).bind fun _ => ((iter (r01_Bit_s1) ((Int.tmod a1 (8 : Int)), ((getV a0 (wrap64 (Int.tdiv a1 (8 : Int)))).toNat : Int))).bind fun b22 => (match b22 with | (x19, x20) => some (Int.tmod x20 (2 : Int)))))))

theorem r01_Bit_ok {S : Hp} (a0 : Lab) (a1 : Int) {r : Int} (h : r01_Bit a0 a1 = some r) : Fn Tryz.prog 63 [aggV [sL a0], .int .i64 a1] S (fun v S' => v = .int .i64 r) := by
 unfold r01_Bit at h
 refine fo [.tmp 4] 28 Tryz.func63 Tryz.ntmps63 (fun o F Q hQ hN hret => ?_)
 refine sr (fun _ hK1 => ?_)
 refine st (OS.boxA (by decide) rfl (fun ad2 => ?_))
 refine an ?_
 refine nt hK1 ?_
 refine G.seq (fun _ hK4 => ?_)
 refine sr (fun _ hK5 => ?_)
 refine mv ?_
 refine vl (Y.ltI rfl rfl) ?_
 refine mv ?_
 obtain ⟨b6, wb6, h⟩ := bind_some' h
 refine GO.joinB 3 12 (b6 = ·) (fun K8 hK8 => ?_) ?_
 ·replace h := wb6
  rcases Bool.eq_false_or_eq_true (decide (a1 < (0 : Int))) with c7 | c7
  ·replace h := ite_t c7 h
   refine gf 9 c7 ?_
   refine gf 9 c7 ?_
   refine vl (Y.pickT _ c7 rfl rfl) ?_
   refine GO.nil ?_
   refine p2 (p2 ?_)
   exact hK8 _ _ l0 (Option.some.inj h).symm
  replace h := ite_f c7 h
  refine gv 9 c7 (Y.move rfl) ?_
  refine gv 9 c7 (Y.gtI rfl rfl) ?_
  refine vl (Y.pickF _ c7 rfl rfl) ?_
  refine GO.nil ?_
  refine p2 (p2 ?_)
  exact hK8 _ _ l0 (Option.some.inj h).symm
 rintro _ S9 e10 rfl
 refine nt hK5 ?_
 refine G.cond _ rfl (fun c11 => ?_) (fun c11 => ?_)
 ·replace h := ite_t c11 h
  refine sr (fun _ hK12 => ?_)
  refine an ?_
  refine nt hK12 ?_
  refine G.ret ?_
  obtain rfl := Option.some.inj h
  exact hret _ _ _ _ 1 e10 (.cons (.tmp rfl) .nil) rfl rfl
 replace h := ite_f c11 h
 refine sk hK4 ?_
 refine sr (fun _ hK13 => ?_)
 refine mv ?_
 refine vl (Y.quoI rfl rfl (by decide)) ?_
 obtain ⟨g14, h⟩ := req_bind h
 refine vl (Y.idxA rfl rfl arr23 g14) ?_
 refine vl (Y.loadE 0  0 _ _ rfl rfl rfl rfl (at_sL _ _ g14) one5) ?_
 refine vl (Y.cv_u8_i64 (a := (getV a0 (wrap64 (Int.tdiv a1 (8 : Int))))) rfl int5 int3) ?_
 refine an ?_
 refine nt hK13 ?_
 refine G.seq (fun _ hK15 => ?_)
 refine sr (fun _ hK16 => ?_)
 refine mv ?_
 refine vl (Y.remI rfl rfl (by decide)) ?_
 refine an ?_
 refine nt hK16 ?_
 refine G.block ?_
 obtain ⟨b22, wb22, ho23⟩ := bind_some' h
 refine G.keep [6, 5] rfl ?_
 refine G.loopK (r01_Bit_s1) (fun s₀ E' S' L' => match s₀ with | (x19, x20) => S9.le S' ∧ E' = [(6, .int .i64 x19), (5, .int .i64 x20)] ∧ Blk ad2 [sL a0] :: F = L') b22 0 (fun E₀ S₀ L₀ => ∃ (x19 : Int) (x20 : Int), S9.le S₀ ∧ b22 = (x19, x20) ∧ E₀ = [(5, .int .i64 x20)] ∧ Blk ad2 [sL a0] :: F = L₀) wb22 ?_ ?_ ?_
 ·rintro _ S28 _ ⟨x19, x20, e29, rfl, rfl, rfl⟩
  have h := ho23; clear ho23
  try dsimp only at h
  refine GX.exit_block ?_
  refine GX.then hK15 ?_
  refine sr (fun _ hK30 => ?_)
  refine mv ?_
  refine vl (Y.remI rfl rfl (by decide)) ?_
  refine an ?_
  refine nt hK30 ?_
  refine G.ret ?_
  obtain rfl := Option.some.inj h
  exact hret _ _ _ _ 1 (l2 e10 e29) (.cons (.tmp rfl) .nil) rfl rfl
 ·exact ⟨Hp.le_refl _, rfl, rfl⟩
 rintro ⟨x19, x20⟩ _ S17 _ ⟨e18, rfl, rfl⟩ out1 h hf1 K1 hK1 hx21
 rw [r01_Bit_s1] at h
 refine G.seq (fun _ hK24 => ?_)
 refine sr (fun _ hK25 => ?_)
 refine mv ?_
 refine vl (Y.ltI rfl rfl) ?_
 refine nt hK25 ?_
 refine G.cond _ rfl (fun c26 => ?_) (fun c26 => ?_)
 ·replace h := ite_t c26 h
  refine sk hK24 ?_
  refine G.seq (fun _ hK27 => ?_)
  refine G.block ?_
  refine G.region ?_
  refine mv ?_
  refine vl (Y.quoI rfl rfl (by decide)) ?_
  refine an ?_
  refine GO.nil ?_
  refine GX.normal_block ?_
  refine GX.then hK27 ?_
  refine G.region ?_
  refine mv ?_
  refine vl (Y.addI rfl rfl) ?_
  refine an ?_
  refine GO.nil ?_
  obtain rfl := Option.some.inj h
  refine GX.keep [6, 5] rfl ?_
  exact hK1 _ _ _ _ rfl ⟨e18, rfl, rfl⟩
 replace h := ite_f c26 h
 refine G.exit ?_
 refine GX.exit_then ?_
 obtain rfl := Option.some.inj h
 refine GX.keep [5] rfl ?_
 exact hx21 _ _ _ ⟨_, _, e18, (hf1 _ rfl).symm, rfl, rfl⟩

/- chirograph/chirographref01.Common -/
def r01_Common_s1 (a0 : Lab) (a1 : Lab) : (Int) → Option ((Int) ⊕ (Int))
 | x10 => ((if (decide (x10 < (256 : Int))) = true then ((r01_Bit a0 x10).bind fun t19 => ((r01_Bit a1 x10).bind fun t24 => some (t19 == t24))) else some false).bind fun b17 => (if b17 = true then some (.inl (wrap64 (x10 + (1 : Int)))) else some (.inr x10)))

def r01_Common  (a0 : Lab) (a1 : Lab) : Option Int :=
 ((iter (r01_Common_s1 a0 a1) (0 : Int)).bind fun b12 => (match b12 with | x10 => some x10))

theorem r01_Common_ok {S : Hp} (a0 : Lab) (a1 : Lab) {r : Int} (h : r01_Common a0 a1 = some r) : Fn Tryz.prog 135 [aggV [sL a0], aggV [sL a1]] S (fun v S' => v = .int .i64 r) := by
 unfold r01_Common at h
 refine fo [.tmp 4] 20 Tryz.func135 Tryz.ntmps135 (fun o F Q hQ hN hret => ?_)
 refine sr (fun _ hK1 => ?_)
 refine st (OS.boxA (by decide) rfl (fun ad2 => ?_))
 refine st (OS.boxA (by decide) rfl (fun ad4 => ?_))
 refine an ?_
 refine nt hK1 ?_
 refine sr (fun _ hK6 => ?_)
 refine an ?_
 refine nt hK6 ?_
 refine G.seq (fun _ hK7 => ?_)
 refine G.block ?_
 obtain ⟨b12, wb12, ho13⟩ := bind_some' h
 refine G.keep [5, 3, 2] rfl ?_
 refine G.loopK (r01_Common_s1 a0 a1) (fun s₀ E' S' L' => match s₀ with | x10 => S.le S' ∧ E' = [(5, .int .i64 x10), (3, .pointer (some ⟨ad4, 0, none⟩)), (2, .pointer (some ⟨ad2, 0, none⟩))] ∧ Blk ad4 [sL a1] :: Blk ad2 [sL a0] :: F = L') b12 0 (fun E₀ S₀ L₀ => ∃ (x10 : Int), S.le S₀ ∧ b12 = x10 ∧ E₀ = [(5, .int .i64 x10)] ∧ Blk ad4 [sL a1] :: Blk ad2 [sL a0] :: F = L₀) wb12 ?_ ?_ ?_
 ·rintro _ S40 _ ⟨x10, e41, rfl, rfl, rfl⟩
  have h := ho13; clear ho13
  try dsimp only at h
  refine GX.exit_block ?_
  refine GX.then hK7 ?_
  refine sr (fun _ hK42 => ?_)
  refine mv ?_
  refine an ?_
  refine nt hK42 ?_
  refine G.ret ?_
  obtain rfl := Option.some.inj h
  exact hret _ _ _ _ 2 e41 (.cons (.tmp rfl) .nil) rfl rfl
 ·exact ⟨Hp.le_refl _, rfl, rfl⟩
 rintro x10 _ S8 _ ⟨e9, rfl, rfl⟩ out1 h hf1 K1 hK1 hx11
 rw [r01_Common_s1] at h
 refine G.seq (fun _ hK14 => ?_)
 refine G.seq (fun _ hK15 => ?_)
 obtain ⟨b17, wb17, h⟩ := bind_some' h
 refine G.cut (fun E₀ S₀ L₀ => S8.le S₀ ∧ E₀ = [(16, .bool b17), (5, .int .i64 x10), (3, .pointer (some ⟨ad4, 0, none⟩)), (2, .pointer (some ⟨ad2, 0, none⟩))] ∧ Blk ad4 [sL a1] :: Blk ad2 [sL a0] :: F = L₀) (fun K16 hK16 => ?_) ?_
 ·replace h := wb17
  rcases Bool.eq_false_or_eq_true (decide (x10 < (256 : Int))) with c18 | c18
  ·replace h := ite_t c18 h
   obtain ⟨t19, wt19, h⟩ := bind_some' h
   obtain ⟨t24, wt24, h⟩ := bind_some' h
   obtain rfl := Option.some.inj h
   refine G.drawN 11 mixed (by kernel_rfl) ?_
   refine tn 0 rfl hQ (fun _ _ _ => Y.move rfl) ?_
   refine tn 1 rfl hQ (fun _ _ _ => Y.ltI rfl rfl) ?_
   refine tn 2 rfl hQ (fun _ _ _ => Y.move rfl) ?_
   refine tw 3 rfl .refl hQ (gi 8 c18) (fun S₀ X₀ e₀ => Y.loadB (X₀.length + 1)  0 1 [sL a0] rfl (Lk rfl) rfl rfl row23 (by kernel_rfl)) ?_
   refine tw 4 rfl .refl hQ (gi 8 c18) (fun _ _ _ => Y.move rfl) ?_
   refine tw 6 rfl .refl hQ (gi 8 c18) (fun S₀ X₀ e₀ => Y.loadB (X₀.length + 0)  0 1 [sL a1] rfl (Lk rfl) rfl rfl row23 (by kernel_rfl)) ?_
   refine tw 7 rfl .refl hQ (gi 8 c18) (fun _ _ _ => Y.move rfl) ?_
   refine g1 5 ?_
   refine GD1.on rfl (gi 8 c18) (by kernel_rfl) (cl fb63 (r01_Bit_ok a0 x10 wt19) (fun v29 S30 e31 z32 => ⟨⟨[], .refl, e31⟩, ?_⟩))
   obtain rfl := z32
   refine g1 8 ?_
   refine GD1.on rfl (gi 8 c18) (by kernel_rfl) (cl fb63 (r01_Bit_ok a1 x10 wt24) (fun v33 S34 e35 z36 => ⟨⟨[], .refl, (l2 e31 e35)⟩, ?_⟩))
   obtain rfl := z36
   refine tw 9 rfl .refl hQ (gi 8 c18) (fun _ _ _ => Y.eqI rfl rfl) ?_
   refine tn 10 rfl hQ (fun _ _ _ => Y.pickT _ c18 rfl rfl) ?_
   refine dn ?_
   refine GX.keep [16, 5, 3, 2] rfl ?_
   exact hK16 _ _ _ ⟨(l2 e31 e35), rfl, rfl⟩
  replace h := ite_f c18 h
  obtain rfl := Option.some.inj h
  refine G.drawN 11 mixed (by kernel_rfl) ?_
  refine tn 0 rfl hQ (fun _ _ _ => Y.move rfl) ?_
  refine tn 1 rfl hQ (fun _ _ _ => Y.ltI rfl rfl) ?_
  refine tn 2 rfl hQ (fun _ _ _ => Y.move rfl) ?_
  refine tf 3 rfl .refl hQ (gn 8 c18) ?_
  refine tf 4 rfl .refl hQ (gn 8 c18) ?_
  refine tf 5 rfl .refl hQ (gn 8 c18) ?_
  refine tf 6 rfl .refl hQ (gn 8 c18) ?_
  refine tf 7 rfl .refl hQ (gn 8 c18) ?_
  refine tf 8 rfl .refl hQ (gn 8 c18) ?_
  refine tf 9 rfl .refl hQ (gn 8 c18) ?_
  refine tn 10 rfl hQ (fun _ _ _ => Y.pickF _ c18 rfl rfl) ?_
  refine dn ?_
  refine GX.keep [16, 5, 3, 2] rfl ?_
  exact hK16 _ _ _ ⟨l0, rfl, rfl⟩
 rintro _ S37 _ ⟨e38, rfl, rfl⟩
 refine GX.then hK15 ?_
 refine G.cond _ rfl (fun c39 => ?_) (fun c39 => ?_)
 ·replace h := ite_t c39 h
  refine sk hK14 ?_
  refine G.block ?_
  refine G.region ?_
  refine mv ?_
  refine vl (Y.addI rfl rfl) ?_
  refine an ?_
  refine GO.nil ?_
  refine GX.normal_block ?_
  obtain rfl := Option.some.inj h
  refine GX.keep [5, 3, 2] rfl ?_
  exact hK1 _ _ _ _ rfl ⟨(l2 e9 e38), rfl, rfl⟩
 replace h := ite_f c39 h
 refine G.exit ?_
 refine GX.exit_then ?_
 obtain rfl := Option.some.inj h
 refine GX.keep [5] rfl ?_
 exact hx11 _ _ _ ⟨_, (l2 e9 e38), (hf1 _ rfl).symm, rfl, rfl⟩

/- chirograph/chirographref01.Order -/
def r01_Order  (a0 : Lab) (a1 : Lab) : Option Int :=
 ((r01_Common a0 a1).bind fun t7 => (if (t7 == (256 : Int)) = true then some (0 : Int) else ((r01_Bit a0 t7).bind fun t17 => some (wrap64 ((wrap64 ((2 : Int) * t17)) - (1 : Int))))))

theorem r01_Order_ok {S : Hp} (a0 : Lab) (a1 : Lab) {r : Int} (h : r01_Order a0 a1 = some r) : Fn Tryz.prog 62 [aggV [sL a0], aggV [sL a1]] S (fun v S' => v = .int .i64 r) := by
 unfold r01_Order at h
 refine fo [.tmp 4] 16 Tryz.func62 Tryz.ntmps62 (fun o F Q hQ hN hret => ?_)
 refine sr (fun _ hK1 => ?_)
 refine st (OS.boxA (by decide) rfl (fun ad2 => ?_))
 refine st (OS.boxA (by decide) rfl (fun ad4 => ?_))
 refine an ?_
 refine nt hK1 ?_
 refine sr (fun _ hK6 => ?_)
 refine lb 1 0 1 [sL a0] row23 ?_
 refine lb 0 0 1 [sL a1] row23 ?_
 obtain ⟨t7, wt7, h⟩ := bind_some' h
 refine st (cl fb135 (r01_Common_ok a0 a1 wt7) (fun v8 S9 e10 z11 => ?_))
 obtain rfl := z11
 refine an ?_
 refine nt hK6 ?_
 refine G.seq (fun _ hK12 => ?_)
 refine sr (fun _ hK13 => ?_)
 refine mv ?_
 refine vl (Y.eqI rfl rfl) ?_
 refine nt hK13 ?_
 refine G.cond _ rfl (fun c14 => ?_) (fun c14 => ?_)
 ·replace h := ite_t c14 h
  refine sr (fun _ hK15 => ?_)
  refine an ?_
  refine nt hK15 ?_
  refine G.ret ?_
  obtain rfl := Option.some.inj h
  exact hret _ _ _ _ 2 e10 (.cons (.tmp rfl) .nil) rfl rfl
 replace h := ite_f c14 h
 refine sk hK12 ?_
 refine sr (fun _ hK16 => ?_)
 refine lb 1 0 1 [sL a0] row23 ?_
 refine mv ?_
 obtain ⟨t17, wt17, h⟩ := bind_some' h
 refine st (cl fb63 (r01_Bit_ok a0 t7 wt17) (fun v18 S19 e20 z21 => ?_))
 obtain rfl := z21
 refine vl (Y.mulI rfl rfl) ?_
 refine vl (Y.subI rfl rfl) ?_
 refine an ?_
 refine nt hK16 ?_
 refine G.ret ?_
 obtain rfl := Option.some.inj h
 exact hret _ _ _ _ 2 (l2 e10 e20) (.cons (.tmp rfl) .nil) rfl rfl

/- chirograph/chirographref01.Set -/
def r01_Set_s1  : (Int × UInt8) → Option ((Int × UInt8) ⊕ (Int × UInt8))
 | (x11, x12) => (if (decide (x11 < (7 : Int))) = true then some (.inl ((wrap64 (x11 + (1 : Int))), (2 * x12))) else some (.inr (x11, x12)))

def r01_Set  (a0 : Lab) (a1 : Int) : Option Lab :=
 ((iter (r01_Set_s1) ((Int.tmod a1 (8 : Int)), 1)).bind fun b14 => (match b14 with | (x11, x12) => ((r01_Bit a0 a1).bind fun t24 => (if (t24 == (0 : Int)) = true then ((req ((0 : Int) ≤ (wrap64 (Int.tdiv a1 (8 : Int))) ∧ (wrap64 (Int.tdiv a1 (8 : Int))) < (32 : Nat))).bind fun _ => ((req ((0 : Int) ≤ (wrap64 (Int.tdiv a1 (8 : Int))) ∧ (wrap64 (Int.tdiv a1 (8 : Int))) < (32 : Nat))).bind fun _ => some (setV a0 (wrap64 (Int.tdiv a1 (8 : Int))) ((getV a0 (wrap64 (Int.tdiv a1 (8 : Int)))) + x12)))) else some a0))))

theorem r01_Set_ok {S : Hp} (a0 : Lab) (a1 : Int) {r : Lab} (h : r01_Set a0 a1 = some r) : Fn Tryz.prog 186 [aggV [sL a0], .int .i64 a1] S (fun v S' => v = aggV [sL r]) := by
 unfold r01_Set at h
 refine fo [.cell 4 23] 27 Tryz.func186 Tryz.ntmps186 (fun o F Q hQ hN hret => ?_)
 refine sr (fun _ hK1 => ?_)
 refine st (OS.boxA (by decide) rfl (fun ad2 => ?_))
 refine st (OS.alloc _ (by decide) zero23 (fun ad4 => ?_))
 refine nt hK1 ?_
 refine sr (fun _ hK6 => ?_)
 refine an ?_
 refine nt hK6 ?_
 refine G.seq (fun _ hK7 => ?_)
 refine sr (fun _ hK8 => ?_)
 refine mv ?_
 refine vl (Y.remI rfl rfl (by decide)) ?_
 refine an ?_
 refine nt hK8 ?_
 refine G.block ?_
 obtain ⟨b14, wb14, ho15⟩ := bind_some' h
 refine G.keep [6, 5, 4, 2, 1] rfl ?_
 refine G.loopK (r01_Set_s1) (fun s₀ E' S' L' => match s₀ with | (x11, x12) => S.le S' ∧ E' = [(6, .int .i64 x11), (5, u8V x12), (4, .pointer (some ⟨ad4, 0, none⟩)), (2, .pointer (some ⟨ad2, 0, none⟩)), (1, .int .i64 a1)] ∧ Blk ad4 [sL zL] :: Blk ad2 [sL a0] :: F = L') b14 0 (fun E₀ S₀ L₀ => ∃ (x11 : Int) (x12 : UInt8), S.le S₀ ∧ b14 = (x11, x12) ∧ E₀ = [(5, u8V x12), (4, .pointer (some ⟨ad4, 0, none⟩)), (2, .pointer (some ⟨ad2, 0, none⟩)), (1, .int .i64 a1)] ∧ Blk ad4 [sL zL] :: Blk ad2 [sL a0] :: F = L₀) wb14 ?_ ?_ ?_
 ·rintro _ S20 _ ⟨x11, x12, e21, rfl, rfl, rfl⟩
  have h := ho15; clear ho15
  try dsimp only at h
  refine GX.exit_block ?_
  refine GX.then hK7 ?_
  refine G.seq (fun _ hK22 => ?_)
  refine sr (fun _ hK23 => ?_)
  refine lb 1 0 1 [sL a0] row23 ?_
  refine mv ?_
  obtain ⟨t24, wt24, h⟩ := bind_some' h
  refine st (cl fb63 (r01_Bit_ok a0 a1 wt24) (fun v25 S26 e27 z28 => ?_))
  obtain rfl := z28
  refine vl (Y.eqI rfl rfl) ?_
  refine nt hK23 ?_
  refine G.cond _ rfl (fun c29 => ?_) (fun c29 => ?_)
  ·replace h := ite_t c29 h
   refine G.region ?_
   refine mv ?_
   refine vl (Y.quoI rfl rfl (by decide)) ?_
   obtain ⟨g30, h⟩ := req_bind h
   refine vl (Y.idxA rfl rfl arr23 g30) ?_
   refine vl (Y.loadE 1  0 _ _ rfl rfl rfl rfl (at_sL _ _ g30) one5) ?_
   refine mv ?_
   refine vl (Y.add_u8 (a := (getV a0 (wrap64 (Int.tdiv a1 (8 : Int))))) (b := x12) rfl rfl) ?_
   obtain ⟨g31, h⟩ := req_bind h
   refine vl (Y.idxA rfl rfl arr23 g31) ?_
   refine st (OS.storeE 1 0 (sL (setV a0 (wrap64 (Int.tdiv a1 (8 : Int))) ((getV a0 (wrap64 (Int.tdiv a1 (8 : Int)))) + x12))) [sL (setV a0 (wrap64 (Int.tdiv a1 (8 : Int))) ((getV a0 (wrap64 (Int.tdiv a1 (8 : Int)))) + x12))] _ rfl rfl rfl rfl rfl rfl (lt_of_bnd g31) (set_sL _ _ _) rfl size5 ?_)
   refine nt hK22 ?_
   refine sr (fun _ hK32 => ?_)
   refine lb 1 0 1 [sL (setV a0 (wrap64 (Int.tdiv a1 (8 : Int))) ((getV a0 (wrap64 (Int.tdiv a1 (8 : Int)))) + x12))] row23 ?_
   refine sf 0 1 [sL (setV a0 (wrap64 (Int.tdiv a1 (8 : Int))) ((getV a0 (wrap64 (Int.tdiv a1 (8 : Int)))) + x12))] (aggV_cells _) (oL oN) size23 ?_
   refine nt hK32 ?_
   refine G.ret ?_
   obtain rfl := Option.some.inj h
   exact hret _ _ _ _ 2 (l2 e21 e27) (.cons (.row (k := 0) rfl rfl row23 (by kernel_rfl)) .nil) rfl rfl
  replace h := ite_f c29 h
  refine sk hK22 ?_
  refine sr (fun _ hK33 => ?_)
  refine lb 1 0 1 [sL a0] row23 ?_
  refine sf 0 1 [sL a0] (aggV_cells _) (oL oN) size23 ?_
  refine nt hK33 ?_
  refine G.ret ?_
  obtain rfl := Option.some.inj h
  exact hret _ _ _ _ 2 (l2 e21 e27) (.cons (.row (k := 0) rfl rfl row23 (by kernel_rfl)) .nil) rfl rfl
 ·exact ⟨Hp.le_refl _, rfl, rfl⟩
 rintro ⟨x11, x12⟩ _ S9 _ ⟨e10, rfl, rfl⟩ out1 h hf1 K1 hK1 hx13
 rw [r01_Set_s1] at h
 refine G.seq (fun _ hK16 => ?_)
 refine sr (fun _ hK17 => ?_)
 refine mv ?_
 refine vl (Y.ltI rfl rfl) ?_
 refine nt hK17 ?_
 refine G.cond _ rfl (fun c18 => ?_) (fun c18 => ?_)
 ·replace h := ite_t c18 h
  refine sk hK16 ?_
  refine G.seq (fun _ hK19 => ?_)
  refine G.block ?_
  refine G.region ?_
  refine mv ?_
  refine vl (Y.mul_u8 (a := 2) (b := x12) rfl rfl) ?_
  refine an ?_
  refine GO.nil ?_
  refine GX.normal_block ?_
  refine GX.then hK19 ?_
  refine G.region ?_
  refine mv ?_
  refine vl (Y.addI rfl rfl) ?_
  refine an ?_
  refine GO.nil ?_
  obtain rfl := Option.some.inj h
  refine GX.keep [6, 5, 4, 2, 1] rfl ?_
  exact hK1 _ _ _ _ rfl ⟨e10, rfl, rfl⟩
 replace h := ite_f c18 h
 refine G.exit ?_
 refine GX.exit_then ?_
 obtain rfl := Option.some.inj h
 refine GX.keep [5, 4, 2, 1] rfl ?_
 exact hx13 _ _ _ ⟨_, _, e10, (hf1 _ rfl).symm, rfl, rfl⟩

/- chirograph/chirographref01.Cut -/
def r01_Cut_s1 (a0 : Lab) (a1 : Int) : (Int × Lab) → Option ((Int × Lab) ⊕ (Int × Lab))
 | (x13, x14) => ((if (decide (x13 < a1)) = true then some (decide (x13 < (256 : Int))) else some false).bind fun b20 => (if b20 = true then ((r01_Bit a0 x13).bind fun t28 => (if (t28 == (1 : Int)) = true then ((r01_Set x14 x13).bind fun t34 => some (.inl ((wrap64 (x13 + (1 : Int))), t34))) else some (.inl ((wrap64 (x13 + (1 : Int))), x14)))) else some (.inr (x13, x14))))

def r01_Cut  (a0 : Lab) (a1 : Int) : Option Lab :=
 ((iter (r01_Cut_s1 a0 a1) ((0 : Int), zL)).bind fun b16 => (match b16 with | (x13, x14) => some x14))

theorem r01_Cut_ok {S : Hp} (a0 : Lab) (a1 : Int) {r : Lab} (h : r01_Cut a0 a1 = some r) : Fn Tryz.prog 137 [aggV [sL a0], .int .i64 a1] S (fun v S' => v = aggV [sL r]) := by
 unfold r01_Cut at h
 refine fo [.cell 4 23] 25 Tryz.func137 Tryz.ntmps137 (fun o F Q hQ hN hret => ?_)
 refine sr (fun _ hK1 => ?_)
 refine st (OS.boxA (by decide) rfl (fun ad2 => ?_))
 refine st (OS.alloc _ (by decide) zero23 (fun ad4 => ?_))
 refine nt hK1 ?_
 refine sr (fun _ hK6 => ?_)
 refine vl (Y.buildA [] [sL zL] arr23 zero23 rfl (by kernel_rfl) (by kernel_rfl)) ?_
 refine st (OS.alloc _ (by decide) zero23 (fun ad7 => ?_))
 refine sf 0 1 [sL zL] (aggV_cells _) (oL oN) size23 ?_
 refine nt hK6 ?_
 refine G.seq (fun _ hK9 => ?_)
 refine sr (fun _ hK10 => ?_)
 refine an ?_
 refine nt hK10 ?_
 refine G.block ?_
 obtain ⟨b16, wb16, ho17⟩ := bind_some' h
 refine G.keep [6, 5, 4, 2, 1] rfl ?_
 refine G.loopK (r01_Cut_s1 a0 a1) (fun s₀ E' S' L' => match s₀ with | (x13, x14) => S.le S' ∧ E' = [(6, .int .i64 x13), (5, .pointer (some ⟨ad7, 0, none⟩)), (4, .pointer (some ⟨ad4, 0, none⟩)), (2, .pointer (some ⟨ad2, 0, none⟩)), (1, .int .i64 a1)] ∧ Blk ad7 [sL x14] :: Blk ad4 [sL zL] :: Blk ad2 [sL a0] :: F = L') b16 0 (fun E₀ S₀ L₀ => ∃ (x13 : Int) (x14 : Lab), S.le S₀ ∧ b16 = (x13, x14) ∧ E₀ = [(5, .pointer (some ⟨ad7, 0, none⟩)), (4, .pointer (some ⟨ad4, 0, none⟩))] ∧ Blk ad7 [sL x14] :: Blk ad4 [sL zL] :: Blk ad2 [sL a0] :: F = L₀) wb16 ?_ ?_ ?_
 ·rintro _ S39 _ ⟨x13, x14, e40, rfl, rfl, rfl⟩
  have h := ho17; clear ho17
  try dsimp only at h
  refine GX.exit_block ?_
  refine GX.then hK9 ?_
  refine sr (fun _ hK41 => ?_)
  refine lb 0 0 1 [sL x14] row23 ?_
  refine sf 1 1 [sL x14] (aggV_cells _) (oL oN) size23 ?_
  refine nt hK41 ?_
  refine G.ret ?_
  obtain rfl := Option.some.inj h
  exact hret _ _ _ _ 3 e40 (.cons (.row (k := 1) rfl rfl row23 (by kernel_rfl)) .nil) rfl rfl
 ·exact ⟨Hp.le_refl _, rfl, rfl⟩
 rintro ⟨x13, x14⟩ _ S11 _ ⟨e12, rfl, rfl⟩ out1 h hf1 K1 hK1 hx15
 rw [r01_Cut_s1] at h
 refine G.seq (fun _ hK18 => ?_)
 refine sr (fun _ hK19 => ?_)
 refine mv ?_
 refine mv ?_
 refine vl (Y.ltI rfl rfl) ?_
 refine mv ?_
 obtain ⟨b20, wb20, h⟩ := bind_some' h
 refine GO.joinB 3 14 (b20 = ·) (fun K22 hK22 => ?_) ?_
 ·replace h := wb20
  rcases Bool.eq_false_or_eq_true (decide (x13 < a1)) with c21 | c21
  ·replace h := ite_t c21 h
   refine gv 11 c21 (Y.move rfl) ?_
   refine gv 11 c21 (Y.ltI rfl rfl) ?_
   refine vl (Y.pickT _ c21 rfl rfl) ?_
   refine GO.nil ?_
   refine p2 (p2 ?_)
   exact hK22 _ _ l0 (Option.some.inj h).symm
  replace h := ite_f c21 h
  refine gf 11 c21 ?_
  refine gf 11 c21 ?_
  refine vl (Y.pickF _ c21 rfl rfl) ?_
  refine GO.nil ?_
  refine p2 (p2 ?_)
  exact hK22 _ _ l0 (Option.some.inj h).symm
 rintro _ S23 e24 rfl
 refine nt hK19 ?_
 refine G.cond _ rfl (fun c25 => ?_) (fun c25 => ?_)
 ·replace h := ite_t c25 h
  refine sk hK18 ?_
  refine G.seq (fun _ hK26 => ?_)
  refine G.block ?_
  refine sr (fun _ hK27 => ?_)
  refine lb 2 0 1 [sL a0] row23 ?_
  refine mv ?_
  obtain ⟨t28, wt28, h⟩ := bind_some' h
  refine st (cl fb63 (r01_Bit_ok a0 x13 wt28) (fun v29 S30 e31 z32 => ?_))
  obtain rfl := z32
  refine vl (Y.eqI rfl rfl) ?_
  refine nt hK27 ?_
  refine G.cond _ rfl (fun c33 => ?_) (fun c33 => ?_)
  ·replace h := ite_t c33 h
   refine G.region ?_
   refine lb 0 0 1 [sL x14] row23 ?_
   refine mv ?_
   obtain ⟨t34, wt34, h⟩ := bind_some' h
   refine st (cl fb186 (r01_Set_ok x14 x13 wt34) (fun v35 S36 e37 z38 => ?_))
   obtain rfl := z38
   refine sf 0 1 [sL t34] (aggV_cells _) (oL oN) size23 ?_
   refine GO.nil ?_
   refine GX.normal_block ?_
   refine GX.then hK26 ?_
   refine G.region ?_
   refine mv ?_
   refine vl (Y.addI rfl rfl) ?_
   refine an ?_
   refine GO.nil ?_
   obtain rfl := Option.some.inj h
   refine GX.keep [6, 5, 4, 2, 1] rfl ?_
   exact hK1 _ _ _ _ rfl ⟨(l2 e12 (l2 e24 (l2 e31 e37))), rfl, rfl⟩
  replace h := ite_f c33 h
  refine G.skip ?_
  refine GX.normal_block ?_
  refine GX.then hK26 ?_
  refine G.region ?_
  refine mv ?_
  refine vl (Y.addI rfl rfl) ?_
  refine an ?_
  refine GO.nil ?_
  obtain rfl := Option.some.inj h
  refine GX.keep [6, 5, 4, 2, 1] rfl ?_
  exact hK1 _ _ _ _ rfl ⟨(l2 e12 (l2 e24 e31)), rfl, rfl⟩
 replace h := ite_f c25 h
 refine G.exit ?_
 refine GX.exit_then ?_
 obtain rfl := Option.some.inj h
 refine GX.keep [5, 4] rfl ?_
 exact hx15 _ _ _ ⟨_, _, (l2 e12 e24), (hf1 _ rfl).symm, rfl, rfl⟩

/- chirograph/chirographref01.Good -/
def r01_Good  (a0 : Int) (a1 : Lab) : Option Bool :=
 ((if (decide ((0 : Int) ≤ a0)) = true then (if (decide (a0 ≤ (256 : Int))) = true then ((r01_Cut a1 a0).bind fun t9 => some (t9 == a1)) else some false) else some false).bind fun b6 => some b6)

theorem r01_Good_ok {S : Hp} (a0 : Int) (a1 : Lab) {r : Bool} (h : r01_Good a0 a1 = some r) : Fn Tryz.prog 174 [.int .i64 a0, aggV [sL a1]] S (fun v S' => v = .bool r) := by
 unfold r01_Good at h
 refine fo [.tmp 4] 18 Tryz.func174 Tryz.ntmps174 (fun o F Q hQ hN hret => ?_)
 refine sr (fun _ hK1 => ?_)
 refine st (OS.boxA (by decide) rfl (fun ad2 => ?_))
 refine an ?_
 refine nt hK1 ?_
 refine G.seq (fun _ hK4 => ?_)
 obtain ⟨b6, wb6, h⟩ := bind_some' h
 refine G.cut (fun E₀ S₀ L₀ => S.le S₀ ∧ E₀ = [(4, .bool b6)] ∧ Blk ad2 [sL a1] :: F = L₀) (fun K5 hK5 => ?_) ?_
 ·replace h := wb6
  rcases Bool.eq_false_or_eq_true (decide ((0 : Int) ≤ a0)) with c7 | c7
  ·replace h := ite_t c7 h
   rcases Bool.eq_false_or_eq_true (decide (a0 ≤ (256 : Int))) with c8 | c8
   ·replace h := ite_t c8 h
    obtain ⟨t9, wt9, h⟩ := bind_some' h
    obtain rfl := Option.some.inj h
    refine G.drawN 14 mixed (by kernel_rfl) ?_
    refine tn 0 rfl hQ (fun _ _ _ => Y.move rfl) ?_
    refine tn 1 rfl hQ (fun _ _ _ => Y.geI rfl rfl) ?_
    refine tn 2 rfl hQ (fun _ _ _ => Y.move rfl) ?_
    refine tw 3 rfl .refl hQ (gi 7 c7) (fun _ _ _ => Y.move rfl) ?_
    refine tw 4 rfl .refl hQ (gi 7 c7) (fun _ _ _ => Y.leI rfl rfl) ?_
    refine tn 5 rfl hQ (fun _ _ _ => Y.pickT _ c7 rfl rfl) ?_
    refine tn 6 rfl hQ (fun _ _ _ => Y.move rfl) ?_
    refine tw 7 rfl .refl hQ (gi 11 c8) (fun S₀ X₀ e₀ => Y.loadB (X₀.length + 0)  0 1 [sL a1] rfl (Lk rfl) rfl rfl row23 (by kernel_rfl)) ?_
    refine tw 8 rfl .refl hQ (gi 11 c8) (fun _ _ _ => Y.move rfl) ?_
    refine tw 10 rfl .refl hQ (gi 11 c8) (fun S₀ X₀ e₀ => Y.loadB (X₀.length + 0)  0 1 [sL a1] rfl (Lk rfl) rfl rfl row23 (by kernel_rfl)) ?_
    refine g1 9 ?_
    refine GD1.on rfl (gi 11 c8) (by kernel_rfl) (cl fb137 (r01_Cut_ok a1 a0 wt9) (fun v14 S15 e16 z17 => ⟨⟨[], .refl, e16⟩, ?_⟩))
    obtain rfl := z17
    refine tw 11 rfl .refl hQ (gi 11 c8) (fun _ _ _ => Y.eqA rfl rfl eqt23 (by decide) (EqV.lab _ _ Tryz.underlying23 one5 Tryz.underlying5)) ?_
    refine tn 12 rfl hQ (fun _ _ _ => Y.pickT _ c8 rfl rfl) ?_
    refine tn 13 rfl hQ (fun _ _ _ => Y.assign rfl) ?_
    refine dn ?_
    refine GX.keep [4] rfl ?_
    exact hK5 _ _ _ ⟨e16, rfl, rfl⟩
   replace h := ite_f c8 h
   obtain rfl := Option.some.inj h
   refine G.drawN 14 mixed (by kernel_rfl) ?_
   refine tn 0 rfl hQ (fun _ _ _ => Y.move rfl) ?_
   refine tn 1 rfl hQ (fun _ _ _ => Y.geI rfl rfl) ?_
   refine tn 2 rfl hQ (fun _ _ _ => Y.move rfl) ?_
   refine tw 3 rfl .refl hQ (gi 7 c7) (fun _ _ _ => Y.move rfl) ?_
   refine tw 4 rfl .refl hQ (gi 7 c7) (fun _ _ _ => Y.leI rfl rfl) ?_
   refine tn 5 rfl hQ (fun _ _ _ => Y.pickT _ c7 rfl rfl) ?_
   refine tn 6 rfl hQ (fun _ _ _ => Y.move rfl) ?_
   refine tf 7 rfl .refl hQ (gn 11 c8) ?_
   refine tf 8 rfl .refl hQ (gn 11 c8) ?_
   refine tf 9 rfl .refl hQ (gn 11 c8) ?_
   refine tf 10 rfl .refl hQ (gn 11 c8) ?_
   refine tf 11 rfl .refl hQ (gn 11 c8) ?_
   refine tn 12 rfl hQ (fun _ _ _ => Y.pickF _ c8 rfl rfl) ?_
   refine tn 13 rfl hQ (fun _ _ _ => Y.assign rfl) ?_
   refine dn ?_
   refine GX.keep [4] rfl ?_
   exact hK5 _ _ _ ⟨l0, rfl, rfl⟩
  replace h := ite_f c7 h
  obtain rfl := Option.some.inj h
  refine G.drawN 14 mixed (by kernel_rfl) ?_
  refine tn 0 rfl hQ (fun _ _ _ => Y.move rfl) ?_
  refine tn 1 rfl hQ (fun _ _ _ => Y.geI rfl rfl) ?_
  refine tn 2 rfl hQ (fun _ _ _ => Y.move rfl) ?_
  refine tf 3 rfl .refl hQ (gn 7 c7) ?_
  refine tf 4 rfl .refl hQ (gn 7 c7) ?_
  refine tn 5 rfl hQ (fun _ _ _ => Y.pickF _ c7 rfl rfl) ?_
  refine tn 6 rfl hQ (fun _ _ _ => Y.move rfl) ?_
  refine tf 7 rfl .refl hQ (gn 11 rfl) ?_
  refine tf 8 rfl .refl hQ (gn 11 rfl) ?_
  refine tf 9 rfl .refl hQ (gn 11 rfl) ?_
  refine tf 10 rfl .refl hQ (gn 11 rfl) ?_
  refine tf 11 rfl .refl hQ (gn 11 rfl) ?_
  refine tn 12 rfl hQ (fun _ _ _ => Y.pickF _ rfl rfl rfl) ?_
  refine tn 13 rfl hQ (fun _ _ _ => Y.assign rfl) ?_
  refine dn ?_
  refine GX.keep [4] rfl ?_
  exact hK5 _ _ _ ⟨l0, rfl, rfl⟩
 rintro _ S18 _ ⟨e19, rfl, rfl⟩
 refine GX.then hK4 ?_
 refine G.ret ?_
 obtain rfl := Option.some.inj h
 exact hret _ _ _ _ 1 e19 (.cons (.tmp rfl) .nil) rfl rfl

end
end Go.Ch
end
section
/- Functions of the program: what each comes to, proved. -/
set_option linter.unusedVariables false
set_option linter.unusedSimpArgs false
set_option maxRecDepth 100000
set_option maxHeartbeats 4000000
namespace Go.Ch
open Go.RowKit (wrap64)
open Go.Proofs
noncomputable section
/- chirograph/chirographref15.Eight -/
def r15_Eight_s1  : (Int × UInt64 × Str) → Option ((Int × UInt64 × Str) ⊕ (Int × UInt64 × Str))
 | (x8, x9, x10) => (if (decide (x8 < (8 : Int))) = true then ((req (List.length ([(x9 % 256).toUInt8] : List UInt8) + List.length x10 ≤ LIM)).bind fun _ => some (.inl ((wrap64 (x8 + (1 : Int))), (x9 / 256), (([(x9 % 256).toUInt8] : List UInt8) ++ x10)))) else some (.inr (x8, x9, x10)))

def r15_Eight  (a0 : Int) : Option Str :=
 ((iter (r15_Eight_s1) ((0 : Int), (u64I a0), ([] : Str))).bind fun b12 => (match b12 with | (x8, x9, x10) => some x10))

theorem r15_Eight_ok {S : Hp} (a0 : Int) {r : Str} (h : r15_Eight a0 = some r) : Fn Tryz.prog 134 [.int .i64 a0] S (fun v S' => v = strV r) := by
 unfold r15_Eight at h
 refine fo [.tmp 2] 22 Tryz.func134 Tryz.ntmps134 (fun o F Q hQ hN hret => ?_)
 refine sr (fun _ hK1 => ?_)
 refine an ?_
 refine nt hK1 ?_
 refine sr (fun _ hK2 => ?_)
 refine an ?_
 refine nt hK2 ?_
 refine sr (fun _ hK3 => ?_)
 refine mv ?_
 refine vl (Y.cv_i64_u64 (a := a0) rfl int3 int204) ?_
 refine an ?_
 refine nt hK3 ?_
 refine G.seq (fun _ hK4 => ?_)
 refine sr (fun _ hK5 => ?_)
 refine an ?_
 refine nt hK5 ?_
 refine G.block ?_
 obtain ⟨b12, wb12, ho13⟩ := bind_some' h
 refine G.keep [5, 4, 3] rfl ?_
 refine G.loopK (r15_Eight_s1) (fun s₀ E' S' L' => match s₀ with | (x8, x9, x10) => S.le S' ∧ E' = [(5, .int .i64 x8), (4, u64V x9), (3, strV x10)] ∧ F = L') b12 0 (fun E₀ S₀ L₀ => ∃ (x8 : Int) (x9 : UInt64) (x10 : Str), S.le S₀ ∧ b12 = (x8, x9, x10) ∧ E₀ = [(3, strV x10)] ∧ F = L₀) wb12 ?_ ?_ ?_
 ·rintro _ S22 _ ⟨x8, x9, x10, e23, rfl, rfl, rfl⟩
  have h := ho13; clear ho13
  try dsimp only at h
  refine GX.exit_block ?_
  refine GX.then hK4 ?_
  refine sr (fun _ hK24 => ?_)
  refine mv ?_
  refine an ?_
  refine nt hK24 ?_
  refine G.ret ?_
  obtain rfl := Option.some.inj h
  exact hret _ _ _ _ 0 e23 (.cons (.tmp rfl) .nil) rfl rfl
 ·exact ⟨Hp.le_refl _, rfl, rfl⟩
 rintro ⟨x8, x9, x10⟩ _ S6 _ ⟨e7, rfl, rfl⟩ out1 h hf1 K1 hK1 hx11
 rw [r15_Eight_s1] at h
 refine G.seq (fun _ hK14 => ?_)
 refine sr (fun _ hK15 => ?_)
 refine mv ?_
 refine vl (Y.ltI rfl rfl) ?_
 refine nt hK15 ?_
 refine G.cond _ rfl (fun c16 => ?_) (fun c16 => ?_)
 ·replace h := ite_t c16 h
  refine sk hK14 ?_
  refine G.seq (fun _ hK17 => ?_)
  refine G.block ?_
  refine sr (fun _ hK18 => ?_)
  refine mv ?_
  refine vl (Y.rem_u64 (a := x9) (b := 256) rfl rfl (by decide)) ?_
  refine vl (Y.cv_u64_u8 (a := (x9 % 256)) rfl int204 int5) ?_
  refine bs ([(x9 % 256).toUInt8] : List UInt8) el102 (fun v19 => ?_)
  refine vl (Y.convBS rfl (Rw.bsrc (k := 0 ) rfl) byt102 sty9) ?_
  refine mv ?_
  obtain ⟨g21, h⟩ := req_bind h
  refine vl (Y.addStr (a := ([(x9 % 256).toUInt8] : List UInt8)) (b := x10) rfl rfl g21) ?_
  refine an ?_
  refine nt hK18 ?_
  refine G.region ?_
  refine mv ?_
  refine vl (Y.quo_u64 (a := x9) (b := 256) rfl rfl (by decide)) ?_
  refine an ?_
  refine GO.nil ?_
  refine GX.normal_block ?_
  refine GX.then hK17 ?_
  refine G.region ?_
  refine mv ?_
  refine vl (Y.addI rfl rfl) ?_
  refine an ?_
  refine GO.nil ?_
  obtain rfl := Option.some.inj h
  refine GX.keep [5, 4, 3] rfl ?_
  refine GX.less 1 rfl ?_
  exact hK1 _ _ _ _ rfl ⟨e7, rfl, rfl⟩
 replace h := ite_f c16 h
 refine G.exit ?_
 refine GX.exit_then ?_
 obtain rfl := Option.some.inj h
 refine GX.keep [3] rfl ?_
 exact hx11 _ _ _ ⟨_, _, _, e7, (hf1 _ rfl).symm, rfl, rfl⟩

/- chirograph/chirographref15.LeafBytes -/
def r15_LeafBytes  (a0 : Leaf) : Option Str :=
 ((r15_Eight a0.at_).bind fun t5 => ((r03_Bytes 16 ([a0.label.toList, a0.value.toList, t5] : List Str)).bind fun t15 => some t15))

theorem r15_LeafBytes_ok {S : Hp} (a0 : Leaf) {r : Str} (h : r15_LeafBytes a0 = some r) : Fn Tryz.prog 56 [aggV [sL a0.label, sL a0.value, sV (.int .i64 a0.at_)]] S (fun v S' => v = strV r) := by
 unfold r15_LeafBytes at h
 refine fo [.tmp 2] 14 Tryz.func56 Tryz.ntmps56 (fun o F Q hQ hN hret => ?_)
 refine sr (fun _ hK1 => ?_)
 refine st (OS.boxA (by decide) rfl (fun ad2 => ?_))
 refine an ?_
 refine nt hK1 ?_
 refine G.seq (fun _ hK4 => ?_)
 obtain ⟨t5, wt5, h⟩ := bind_some' h
 obtain ⟨t15, wt15, h⟩ := bind_some' h
 refine G.drawN 12 mixed (by kernel_rfl) ?_
 refine tn 0 rfl hQ (fun _ _ _ => Y.fieldAddr 0 rfl fld41_0 rfl) ?_
 refine tn 1 rfl hQ (fun _ _ _ => Y.sliceArr rfl arr23 (by decide)) ?_
 refine tn 2 rfl hQ (fun S₀ X₀ e₀ => Y.convBS rfl (Blk.bsrcLab (k := (X₀.length + 0) ) (i := 0) (Lk rfl) rfl rfl) byt102 sty9) ?_
 refine tn 3 rfl hQ (fun _ _ _ => Y.fieldAddr 32 rfl fld41_1 rfl) ?_
 refine tn 4 rfl hQ (fun _ _ _ => Y.sliceArr rfl arr23 (by decide)) ?_
 refine tn 5 rfl hQ (fun S₀ X₀ e₀ => Y.convBS rfl (Blk.bsrcLab (k := (X₀.length + 0) ) (i := 1) (Lk rfl) rfl rfl) byt102 sty9) ?_
 refine tn 6 rfl hQ (fun _ _ _ => Y.fieldAddr 64 rfl fld41_2 rfl) ?_
 refine tn 7 rfl hQ (fun S₀ X₀ e₀ => Y.loadV (X₀.length + 0)  2 _ rfl (Lk rfl) rfl rfl one3) ?_
 refine g1 8 ?_
 refine n1 rfl (cl fb134 (r15_Eight_ok a0.at_ wt5) (fun v21 S22 e23 z24 => ⟨⟨[], .refl, e23⟩, ?_⟩))
 obtain rfl := z24
 refine g1 9 ?_
 refine n1 rfl (OS.buildSliceE ([a0.label.toList, a0.value.toList, t5] : List Str) (by decide) el58 rfl (Nat.le_of_ble_eq_true rfl) rfl ⟨rfl, rfl⟩ (fun v25 => ⟨⟨[_], (.same .refl), e23⟩, ?_⟩))
 refine GDr.shareR 0 rfl (fun S27 e28 q29 => ?_)
 refine g1 10 ?_
 refine n1 rfl (cl fb133 (r03_Bytes_ok 16 ([a0.label.toList, a0.value.toList, t5] : List Str) q29 wt15) (fun v30 S31 e32 z33 => ⟨⟨[_], (.same .refl), (l2 e23 (l2 e28 e32))⟩, ?_⟩))
 have q34 := q29.up e32
 obtain rfl := z33
 refine tn 11 rfl hQ (fun _ _ _ => Y.assign rfl) ?_
 refine dn ?_
 refine GX.then hK4 ?_
 refine G.ret ?_
 obtain rfl := Option.some.inj h
 exact hret _ _ _ _ 2 (l2 e23 (l2 e28 e32)) (.cons (.tmp rfl) .nil) rfl rfl

/- chirograph/chirographref15.Good -/
def r15_Good  (a0 : Item) : Option Bool :=
 ((r01_Good a0.len a0.bits).bind fun t5 => ((if t5 = true then some (decide ((0 : Int) ≤ a0.at_)) else some false).bind fun b10 => ((if b10 = true then some (decide (a0.at_ ≤ (1073741824 : Int))) else some false).bind fun b15 => some b15)))

theorem r15_Good_ok {S : Hp} (a0 : Item) {r : Bool} (h : r15_Good a0 = some r) : Fn Tryz.prog 100 [aggV [sV (.int .i64 a0.len), sL a0.bits, sL a0.sum, sV (.int .i64 a0.at_)]] S (fun v S' => v = .bool r) := by
 unfold r15_Good at h
 refine fo [.tmp 2] 18 Tryz.func100 Tryz.ntmps100 (fun o F Q hQ hN hret => ?_)
 refine sr (fun _ hK1 => ?_)
 refine st (OS.boxA (by decide) rfl (fun ad2 => ?_))
 refine an ?_
 refine nt hK1 ?_
 refine sr (fun _ hK4 => ?_)
 refine vl (Y.fieldAddr 0 rfl fld45_0 rfl) ?_
 refine lv 0 0 one3 ?_
 refine vl (Y.fieldAddr 1 rfl fld45_1 rfl) ?_
 refine lb 0 1 1 [sL a0.bits] row23 ?_
 obtain ⟨t5, wt5, h⟩ := bind_some' h
 refine st (cl fb174 (r01_Good_ok a0.len a0.bits wt5) (fun v6 S7 e8 z9 => ?_))
 obtain rfl := z9
 refine mv ?_
 obtain ⟨b10, wb10, h⟩ := bind_some' h
 refine GO.joinB 4 12 (b10 = ·) (fun K12 hK12 => ?_) ?_
 ·replace h := wb10
  rcases Bool.eq_false_or_eq_true t5 with c11 | c11
  ·replace h := ite_t c11 h
   refine gv 8 c11 (Y.fieldAddr 65 rfl fld45_3 rfl) ?_
   refine gv 8 c11 (Y.loadV 0  3 _ rfl rfl rfl rfl one3) ?_
   refine gv 8 c11 (Y.geI rfl rfl) ?_
   refine vl (Y.pickT _ c11 rfl rfl) ?_
   refine GO.nil ?_
   refine p2 (p2 (p2 ?_))
   exact hK12 _ _ l0 (Option.some.inj h).symm
  replace h := ite_f c11 h
  refine gf 8 c11 ?_
  refine gf 8 c11 ?_
  refine gf 8 c11 ?_
  refine vl (Y.pickF _ c11 rfl rfl) ?_
  refine GO.nil ?_
  refine p2 (p2 (p2 ?_))
  exact hK12 _ _ l0 (Option.some.inj h).symm
 rintro _ S13 e14 rfl
 refine mv ?_
 obtain ⟨b15, wb15, h⟩ := bind_some' h
 refine GO.joinB 4 17 (b15 = ·) (fun K17 hK17 => ?_) ?_
 ·replace h := wb15
  rcases Bool.eq_false_or_eq_true b10 with c16 | c16
  ·replace h := ite_t c16 h
   refine gv 13 c16 (Y.fieldAddr 65 rfl fld45_3 rfl) ?_
   refine gv 13 c16 (Y.loadV 0  3 _ rfl rfl rfl rfl one3) ?_
   refine gv 13 c16 (Y.leI rfl rfl) ?_
   refine vl (Y.pickT _ c16 rfl rfl) ?_
   refine GO.nil ?_
   refine p2 (p2 (p2 ?_))
   exact hK17 _ _ l0 (Option.some.inj h).symm
  replace h := ite_f c16 h
  refine gf 13 c16 ?_
  refine gf 13 c16 ?_
  refine gf 13 c16 ?_
  refine vl (Y.pickF _ c16 rfl rfl) ?_
  refine GO.nil ?_
  refine p2 (p2 (p2 ?_))
  exact hK17 _ _ l0 (Option.some.inj h).symm
 rintro _ S18 e19 rfl
 refine an ?_
 refine nt hK4 ?_
 refine G.ret ?_
 obtain rfl := Option.some.inj h
 exact hret _ _ _ _ 1 (l2 e8 (l2 e14 e19)) (.cons (.tmp rfl) .nil) rfl rfl

/- chirograph/chirographref15.Check -/
def r15_Check  (a0 : Item) (a1 : Item) : Option Int :=
 ((r15_Good a0).bind fun t8 => ((if (!t8) = true then some true else ((r15_Good a1).bind fun t16 => some (!t16))).bind fun b13 => (if b13 = true then some (1 : Int) else ((r01_Common a0.bits a1.bits).bind fun t26 => ((if (decide (a0.len ≤ t26)) = true then some true else some (decide (a1.len ≤ t26))).bind fun b33 => ((if b33 = true then some true else ((r01_Order a0.bits a1.bits).bind fun t41 => some (t41 != (-1 : Int)))).bind fun b38 => (if b38 = true then some (3 : Int) else some (0 : Int))))))))

theorem r15_Check_ok {S : Hp} (a0 : Item) (a1 : Item) {r : Int} (h : r15_Check a0 a1 = some r) : Fn Tryz.prog 58 [aggV [sV (.int .i64 a0.len), sL a0.bits, sL a0.sum, sV (.int .i64 a0.at_)], aggV [sV (.int .i64 a1.len), sL a1.bits, sL a1.sum, sV (.int .i64 a1.at_)]] S (fun v S' => v = .int .i64 r) := by
 unfold r15_Check at h
 refine fo [.tmp 4] 37 Tryz.func58 Tryz.ntmps58 (fun o F Q hQ hN hret => ?_)
 refine sr (fun _ hK1 => ?_)
 refine st (OS.boxA (by decide) rfl (fun ad2 => ?_))
 refine st (OS.boxA (by decide) rfl (fun ad4 => ?_))
 refine an ?_
 refine nt hK1 ?_
 refine G.seq (fun _ hK6 => ?_)
 refine sr (fun _ hK7 => ?_)
 refine lb 1 0 4 [sV (.int .i64 a0.len), sL a0.bits, sL a0.sum, sV (.int .i64 a0.at_)] row45 ?_
 obtain ⟨t8, wt8, h⟩ := bind_some' h
 refine st (cl fb100 (r15_Good_ok a0 wt8) (fun v9 S10 e11 z12 => ?_))
 obtain rfl := z12
 refine vl (Y.not rfl) ?_
 refine mv ?_
 obtain ⟨b13, wb13, h⟩ := bind_some' h
 refine GO.joinB 4 13 (b13 = ·) (fun K15 hK15 => ?_) ?_
 ·replace h := wb13
  rcases Bool.eq_false_or_eq_true (!t8) with c14 | c14
  ·replace h := ite_t c14 h
   refine gf 9 c14 ?_
   refine gf 9 c14 ?_
   refine gf 9 c14 ?_
   refine vl (Y.pickT _ c14 rfl rfl) ?_
   refine GO.nil ?_
   refine p2 (p2 (p2 ?_))
   exact hK15 _ _ l0 (Option.some.inj h).symm
  replace h := ite_f c14 h
  refine gv 9 c14 (Y.loadB 0  0 4 [sV (.int .i64 a1.len), sL a1.bits, sL a1.sum, sV (.int .i64 a1.at_)] rfl rfl rfl rfl row45 (by kernel_rfl)) ?_
  obtain ⟨t16, wt16, h⟩ := bind_some' h
  refine GO.onS 9 rfl (by decide) rfl c14 (cl fb100 (r15_Good_ok a1 wt16) (fun v17 S18 e19 z20 => ?_))
  obtain rfl := z20
  refine gv 9 c14 (Y.not rfl) ?_
  refine vl (Y.pickF _ c14 rfl rfl) ?_
  refine GO.nil ?_
  refine p2 (p2 (p2 ?_))
  exact hK15 _ _ e19 (Option.some.inj h).symm
 rintro _ S21 e22 rfl
 refine nt hK7 ?_
 refine G.cond _ rfl (fun c23 => ?_) (fun c23 => ?_)
 ·replace h := ite_t c23 h
  refine sr (fun _ hK24 => ?_)
  refine an ?_
  refine nt hK24 ?_
  refine G.ret ?_
  obtain rfl := Option.some.inj h
  exact hret _ _ _ _ 2 (l2 e11 e22) (.cons (.tmp rfl) .nil) rfl rfl
 replace h := ite_f c23 h
 refine sk hK6 ?_
 refine sr (fun _ hK25 => ?_)
 refine vl (Y.fieldAddr 1 rfl fld45_1 rfl) ?_
 refine lb 1 1 1 [sL a0.bits] row23 ?_
 refine vl (Y.fieldAddr 1 rfl fld45_1 rfl) ?_
 refine lb 0 1 1 [sL a1.bits] row23 ?_
 obtain ⟨t26, wt26, h⟩ := bind_some' h
 refine st (cl fb135 (r01_Common_ok a0.bits a1.bits wt26) (fun v27 S28 e29 z30 => ?_))
 obtain rfl := z30
 refine an ?_
 refine nt hK25 ?_
 refine G.seq (fun _ hK31 => ?_)
 refine sr (fun _ hK32 => ?_)
 refine mv ?_
 refine vl (Y.fieldAddr 0 rfl fld45_0 rfl) ?_
 refine lv 1 0 one3 ?_
 refine vl (Y.geI rfl rfl) ?_
 refine mv ?_
 obtain ⟨b33, wb33, h⟩ := bind_some' h
 refine GO.joinB 5 28 (b33 = ·) (fun K35 hK35 => ?_) ?_
 ·replace h := wb33
  rcases Bool.eq_false_or_eq_true (decide (a0.len ≤ t26)) with c34 | c34
  ·replace h := ite_t c34 h
   refine gf 23 c34 ?_
   refine gf 23 c34 ?_
   refine gf 23 c34 ?_
   refine gf 23 c34 ?_
   refine vl (Y.pickT _ c34 rfl rfl) ?_
   refine GO.nil ?_
   refine p2 (p2 (p2 (p2 ?_)))
   exact hK35 _ _ l0 (Option.some.inj h).symm
  replace h := ite_f c34 h
  refine gv 23 c34 (Y.move rfl) ?_
  refine gv 23 c34 (Y.fieldAddr 0 rfl fld45_0 rfl) ?_
  refine gv 23 c34 (Y.loadV 0  0 _ rfl rfl rfl rfl one3) ?_
  refine gv 23 c34 (Y.geI rfl rfl) ?_
  refine vl (Y.pickF _ c34 rfl rfl) ?_
  refine GO.nil ?_
  refine p2 (p2 (p2 (p2 ?_)))
  exact hK35 _ _ l0 (Option.some.inj h).symm
 rintro _ S36 e37 rfl
 refine mv ?_
 obtain ⟨b38, wb38, h⟩ := bind_some' h
 refine GO.joinB 7 36 (b38 = ·) (fun K40 hK40 => ?_) ?_
 ·replace h := wb38
  rcases Bool.eq_false_or_eq_true b33 with c39 | c39
  ·replace h := ite_t c39 h
   refine gf 29 c39 ?_
   refine gf 29 c39 ?_
   refine gf 29 c39 ?_
   refine gf 29 c39 ?_
   refine gf 29 c39 ?_
   refine gf 29 c39 ?_
   refine vl (Y.pickT _ c39 rfl rfl) ?_
   refine GO.nil ?_
   refine p2 (p2 (p2 (p2 (p2 (p2 ?_)))))
   exact hK40 _ _ l0 (Option.some.inj h).symm
  replace h := ite_f c39 h
  refine gv 29 c39 (Y.fieldAddr 1 rfl fld45_1 rfl) ?_
  refine gv 29 c39 (Y.loadB 1  1 1 [sL a0.bits] rfl rfl rfl rfl row23 (by kernel_rfl)) ?_
  refine gv 29 c39 (Y.fieldAddr 1 rfl fld45_1 rfl) ?_
  refine gv 29 c39 (Y.loadB 0  1 1 [sL a1.bits] rfl rfl rfl rfl row23 (by kernel_rfl)) ?_
  obtain ⟨t41, wt41, h⟩ := bind_some' h
  refine GO.onS 29 rfl (by decide) rfl c39 (cl fb62 (r01_Order_ok a0.bits a1.bits wt41) (fun v42 S43 e44 z45 => ?_))
  obtain rfl := z45
  refine gv 29 c39 (Y.neI rfl rfl) ?_
  refine vl (Y.pickF _ c39 rfl rfl) ?_
  refine GO.nil ?_
  refine p2 (p2 (p2 (p2 (p2 (p2 ?_)))))
  exact hK40 _ _ e44 (Option.some.inj h).symm
 rintro _ S46 e47 rfl
 refine nt hK32 ?_
 refine G.cond _ rfl (fun c48 => ?_) (fun c48 => ?_)
 ·replace h := ite_t c48 h
  refine sr (fun _ hK49 => ?_)
  refine an ?_
  refine nt hK49 ?_
  refine G.ret ?_
  obtain rfl := Option.some.inj h
  exact hret _ _ _ _ 2 (l2 e11 (l2 e22 (l2 e29 (l2 e37 e47)))) (.cons (.tmp rfl) .nil) rfl rfl
 replace h := ite_f c48 h
 refine sk hK31 ?_
 refine sr (fun _ hK50 => ?_)
 refine an ?_
 refine nt hK50 ?_
 refine G.ret ?_
 obtain rfl := Option.some.inj h
 exact hret _ _ _ _ 2 (l2 e11 (l2 e22 (l2 e29 (l2 e37 e47)))) (.cons (.tmp rfl) .nil) rfl rfl

/- chirograph/chirographref15.Text -/
def r15_Text  (a0 : Item) : Option Str :=
 ((r15_Eight a0.len).bind fun t5 => ((req (List.length t5 + List.length a0.bits.toList ≤ LIM)).bind fun _ => ((req (List.length (t5 ++ a0.bits.toList) + List.length a0.sum.toList ≤ LIM)).bind fun _ => ((r15_Eight a0.at_).bind fun t12 => ((req (List.length ((t5 ++ a0.bits.toList) ++ a0.sum.toList) + List.length t12 ≤ LIM)).bind fun _ => some (((t5 ++ a0.bits.toList) ++ a0.sum.toList) ++ t12))))))

theorem r15_Text_ok {S : Hp} (a0 : Item) {r : Str} (h : r15_Text a0 = some r) : Fn Tryz.prog 136 [aggV [sV (.int .i64 a0.len), sL a0.bits, sL a0.sum, sV (.int .i64 a0.at_)]] S (fun v S' => v = strV r) := by
 unfold r15_Text at h
 refine fo [.tmp 2] 18 Tryz.func136 Tryz.ntmps136 (fun o F Q hQ hN hret => ?_)
 refine sr (fun _ hK1 => ?_)
 refine st (OS.boxA (by decide) rfl (fun ad2 => ?_))
 refine an ?_
 refine nt hK1 ?_
 refine G.seq (fun _ hK4 => ?_)
 obtain ⟨t5, wt5, h⟩ := bind_some' h
 obtain ⟨g10, h⟩ := req_bind h
 obtain ⟨g11, h⟩ := req_bind h
 obtain ⟨t12, wt12, h⟩ := bind_some' h
 obtain ⟨g17, h⟩ := req_bind h
 refine G.drawN 16 mixed (by kernel_rfl) ?_
 refine tn 0 rfl hQ (fun _ _ _ => Y.fieldAddr 0 rfl fld45_0 rfl) ?_
 refine tn 1 rfl hQ (fun S₀ X₀ e₀ => Y.loadV (X₀.length + 0)  0 _ rfl (Lk rfl) rfl rfl one3) ?_
 refine tn 3 rfl hQ (fun _ _ _ => Y.fieldAddr 1 rfl fld45_1 rfl) ?_
 refine tn 4 rfl hQ (fun _ _ _ => Y.sliceArr rfl arr23 (by decide)) ?_
 refine tn 5 rfl hQ (fun S₀ X₀ e₀ => Y.convBS rfl (Blk.bsrcLab (k := (X₀.length + 0) ) (i := 1) (Lk rfl) rfl rfl) byt102 sty9) ?_
 refine tn 7 rfl hQ (fun _ _ _ => Y.fieldAddr 33 rfl fld45_2 rfl) ?_
 refine tn 8 rfl hQ (fun _ _ _ => Y.sliceArr rfl arr23 (by decide)) ?_
 refine tn 9 rfl hQ (fun S₀ X₀ e₀ => Y.convBS rfl (Blk.bsrcLab (k := (X₀.length + 0) ) (i := 2) (Lk rfl) rfl rfl) byt102 sty9) ?_
 refine tn 11 rfl hQ (fun _ _ _ => Y.fieldAddr 65 rfl fld45_3 rfl) ?_
 refine tn 12 rfl hQ (fun S₀ X₀ e₀ => Y.loadV (X₀.length + 0)  3 _ rfl (Lk rfl) rfl rfl one3) ?_
 refine g1 2 ?_
 refine n1 rfl (cl fb134 (r15_Eight_ok a0.len wt5) (fun v18 S19 e20 z21 => ⟨⟨[], .refl, e20⟩, ?_⟩))
 obtain rfl := z21
 refine tn 6 rfl hQ (fun _ _ _ => Y.addStr (a := t5) (b := a0.bits.toList) rfl rfl g10) ?_
 refine tn 10 rfl hQ (fun _ _ _ => Y.addStr (a := (t5 ++ a0.bits.toList)) (b := a0.sum.toList) rfl rfl g11) ?_
 refine g1 13 ?_
 refine n1 rfl (cl fb134 (r15_Eight_ok a0.at_ wt12) (fun v22 S23 e24 z25 => ⟨⟨[], .refl, (l2 e20 e24)⟩, ?_⟩))
 obtain rfl := z25
 refine tn 14 rfl hQ (fun _ _ _ => Y.addStr (a := ((t5 ++ a0.bits.toList) ++ a0.sum.toList)) (b := t12) rfl rfl g17) ?_
 refine tn 15 rfl hQ (fun _ _ _ => Y.assign rfl) ?_
 refine dn ?_
 refine GX.then hK4 ?_
 refine G.ret ?_
 obtain rfl := Option.some.inj h
 exact hret _ _ _ _ 1 (l2 e20 e24) (.cons (.tmp rfl) .nil) rfl rfl

/- chirograph/chirographref15.InnerBytes -/
def r15_InnerBytes  (a0 : Item) (a1 : Item) : Option Str :=
 ((r15_Text a0).bind fun t7 => ((r15_Text a1).bind fun t12 => ((r03_Bytes 17 ([t7, t12] : List Str)).bind fun t22 => some t22)))

theorem r15_InnerBytes_ok {S : Hp} (a0 : Item) (a1 : Item) {r : Str} (h : r15_InnerBytes a0 a1 = some r) : Fn Tryz.prog 59 [aggV [sV (.int .i64 a0.len), sL a0.bits, sL a0.sum, sV (.int .i64 a0.at_)], aggV [sV (.int .i64 a1.len), sL a1.bits, sL a1.sum, sV (.int .i64 a1.at_)]] S (fun v S' => v = strV r) := by
 unfold r15_InnerBytes at h
 refine fo [.tmp 4] 11 Tryz.func59 Tryz.ntmps59 (fun o F Q hQ hN hret => ?_)
 refine sr (fun _ hK1 => ?_)
 refine st (OS.boxA (by decide) rfl (fun ad2 => ?_))
 refine st (OS.boxA (by decide) rfl (fun ad4 => ?_))
 refine an ?_
 refine nt hK1 ?_
 refine G.seq (fun _ hK6 => ?_)
 obtain ⟨t7, wt7, h⟩ := bind_some' h
 obtain ⟨t12, wt12, h⟩ := bind_some' h
 obtain ⟨t22, wt22, h⟩ := bind_some' h
 refine G.drawN 7 mixed (by kernel_rfl) ?_
 refine tn 0 rfl hQ (fun S₀ X₀ e₀ => Y.loadB (X₀.length + 1)  0 4 [sV (.int .i64 a0.len), sL a0.bits, sL a0.sum, sV (.int .i64 a0.at_)] rfl (Lk rfl) rfl rfl row45 (by kernel_rfl)) ?_
 refine tn 2 rfl hQ (fun S₀ X₀ e₀ => Y.loadB (X₀.length + 0)  0 4 [sV (.int .i64 a1.len), sL a1.bits, sL a1.sum, sV (.int .i64 a1.at_)] rfl (Lk rfl) rfl rfl row45 (by kernel_rfl)) ?_
 refine g1 1 ?_
 refine n1 rfl (cl fb136 (r15_Text_ok a0 wt7) (fun v28 S29 e30 z31 => ⟨⟨[], .refl, e30⟩, ?_⟩))
 obtain rfl := z31
 refine g1 3 ?_
 refine n1 rfl (cl fb136 (r15_Text_ok a1 wt12) (fun v32 S33 e34 z35 => ⟨⟨[], .refl, (l2 e30 e34)⟩, ?_⟩))
 obtain rfl := z35
 refine g1 4 ?_
 refine n1 rfl (OS.buildSliceE ([t7, t12] : List Str) (by decide) el58 rfl (Nat.le_of_ble_eq_true rfl) rfl ⟨rfl, rfl⟩ (fun v36 => ⟨⟨[_], (.same .refl), (l2 e30 e34)⟩, ?_⟩))
 refine GDr.shareR 0 rfl (fun S38 e39 q40 => ?_)
 refine g1 5 ?_
 refine n1 rfl (cl fb133 (r03_Bytes_ok 17 ([t7, t12] : List Str) q40 wt22) (fun v41 S42 e43 z44 => ⟨⟨[_], (.same .refl), (l2 e30 (l2 e34 (l2 e39 e43)))⟩, ?_⟩))
 have q45 := q40.up e43
 obtain rfl := z44
 refine tn 6 rfl hQ (fun _ _ _ => Y.assign rfl) ?_
 refine dn ?_
 refine GX.then hK6 ?_
 refine G.ret ?_
 obtain rfl := Option.some.inj h
 exact hret _ _ _ _ 3 (l2 e30 (l2 e34 (l2 e39 e43))) (.cons (.tmp rfl) .nil) rfl rfl

end
end Go.Ch
end
section
/- Functions of the program: what each comes to, proved. -/
set_option linter.unusedVariables false
set_option linter.unusedSimpArgs false
set_option maxRecDepth 100000
set_option maxHeartbeats 4000000
namespace Go.Ch
open Go.RowKit (wrap64)
open Go.Proofs
noncomputable section
/- chirograph/chirographref03.Sum -/
def r03_Sum_s3 (x59 : (Vector UInt32 8)) : (Int × (Vector UInt32 8)) → Option ((Int × (Vector UInt32 8)) ⊕ (Int × (Vector UInt32 8)))
 | (x169, x170) => (if (decide (x169 < (8 : Int))) = true then ((req ((0 : Int) ≤ x169 ∧ x169 < (8 : Nat))).bind fun _ => ((req ((0 : Int) ≤ x169 ∧ x169 < (8 : Nat))).bind fun _ => ((req ((0 : Int) ≤ x169 ∧ x169 < (8 : Nat))).bind fun _ => some (.inl ((wrap64 (x169 + (1 : Int))), (setV x170 x169 ((getV x170 x169) + (getV x59 x169)))))))) else some (.inr (x169, x170)))

def r03_Sum_s2 (t10 : (Vector UInt32 64)) (t44 : (Vector UInt32 64)) : (Int × (Vector UInt32 8)) → Option ((Int × (Vector UInt32 8)) ⊕ (Int × (Vector UInt32 8)))
 | (x58, x59) => (if (decide (x58 < (64 : Int))) = true then ((r03_right (getV x59 (4 : Int)) (6 : Int)).bind fun t69 => ((r03_right (getV x59 (4 : Int)) (11 : Int)).bind fun t76 => ((r03_right (getV x59 (4 : Int)) (25 : Int)).bind fun t83 => ((req ((0 : Int) ≤ x58 ∧ x58 < (64 : Nat))).bind fun _ => ((req ((0 : Int) ≤ x58 ∧ x58 < (64 : Nat))).bind fun _ => ((r03_right (getV x59 (0 : Int)) (2 : Int)).bind fun t115 => ((r03_right (getV x59 (0 : Int)) (13 : Int)).bind fun t122 => ((r03_right (getV x59 (0 : Int)) (22 : Int)).bind fun t129 => some (.inl ((wrap64 (x58 + (1 : Int))), #v[(((((((getV x59 (7 : Int)) + ((t69 ^^^ t76) ^^^ t83)) + (((getV x59 (4 : Int)) &&& (getV x59 (5 : Int))) ||| ((4294967295 - (getV x59 (4 : Int))) &&& (getV x59 (6 : Int))))) + (getV t10 x58)) + (getV t44 x58)) + ((t115 ^^^ t122) ^^^ t129)) + ((((getV x59 (0 : Int)) &&& (getV x59 (1 : Int))) ||| ((getV x59 (0 : Int)) &&& (getV x59 (2 : Int)))) ||| ((getV x59 (1 : Int)) &&& (getV x59 (2 : Int))))), (getV x59 (0 : Int)), (getV x59 (1 : Int)), (getV x59 (2 : Int)), ((getV x59 (3 : Int)) + (((((getV x59 (7 : Int)) + ((t69 ^^^ t76) ^^^ t83)) + (((getV x59 (4 : Int)) &&& (getV x59 (5 : Int))) ||| ((4294967295 - (getV x59 (4 : Int))) &&& (getV x59 (6 : Int))))) + (getV t10 x58)) + (getV t44 x58))), (getV x59 (4 : Int)), (getV x59 (5 : Int)), (getV x59 (6 : Int))])))))))))) else some (.inr (x58, x59)))

def r03_Sum_s4 (x32 : (Vector UInt32 8)) : (Int × Lab) → Option ((Int × Lab) ⊕ (Int × Lab))
 | (x193, x194) => (if (decide (x193 < (32 : Int))) = true then ((req ((0 : Int) ≤ (wrap64 (Int.tdiv x193 (4 : Int))) ∧ (wrap64 (Int.tdiv x193 (4 : Int))) < (8 : Nat))).bind fun _ => ((req (0 ≤ (wrap64 ((24 : Int) - (wrap64 ((Int.tmod x193 (4 : Int)) * (8 : Int))))))).bind fun _ => ((req ((0 : Int) ≤ x193 ∧ x193 < (32 : Nat))).bind fun _ => some (.inl ((wrap64 (x193 + (1 : Int))), (setV x194 x193 ((hr_u32 (getV x32 (wrap64 (Int.tdiv x193 (4 : Int)))) (wrap64 ((24 : Int) - (wrap64 ((Int.tmod x193 (4 : Int)) * (8 : Int)))))).toUInt8))))))) else some (.inr (x193, x194)))

def r03_Sum_s1 (t10 : (Vector UInt32 64)) (t20 : (List UInt8)) : (Int × (Vector UInt32 8)) → Option ((Int × (Vector UInt32 8)) ⊕ (Int × (Vector UInt32 8)))
 | (x31, x32) => (if (decide (x31 < (lenI t20))) = true then ((req ((0 : Int) ≤ x31 ∧ x31 ≤ (wrap64 (x31 + (64 : Int))) ∧ (wrap64 (x31 + (64 : Int))) ≤ lenI t20)).bind fun _ => ((r03_Words (cutL t20 x31 (wrap64 (x31 + (64 : Int))))).bind fun t44 => ((iter (r03_Sum_s2 t10 t44) ((0 : Int), x32)).bind fun b61 => (match b61 with | (x58, x59) => ((iter (r03_Sum_s3 x59) ((0 : Int), x32)).bind fun b172 => (match b172 with | (x169, x170) => some (.inl ((wrap64 (x31 + (64 : Int))), x170)))))))) else some (.inr (x31, x32)))

def r03_Sum  (a0 : Str) : Option Lab :=
 ((r03_Begin).bind fun t5 => ((r03_Steps).bind fun t10 => ((r03_Padded a0).bind fun t20 => ((iter (r03_Sum_s1 t10 t20) ((0 : Int), t5)).bind fun b34 => (match b34 with | (x31, x32) => ((iter (r03_Sum_s4 x32) ((0 : Int), zL)).bind fun b196 => (match b196 with | (x193, x194) => some x194)))))))

theorem r03_Sum_ok {S : Hp} (a0 : Str) {r : Lab} (h : r03_Sum a0 = some r) : Fn Tryz.prog 39 [strV a0] S (fun v S' => v = aggV [sL r]) := by
 unfold r03_Sum at h
 refine fo [.cell 2 23] 156 Tryz.func39 Tryz.ntmps39 (fun o F Q hQ hN hret => ?_)
 refine sr (fun _ hK1 => ?_)
 refine st (OS.alloc _ (by decide) zero23 (fun ad2 => ?_))
 refine nt hK1 ?_
 refine sr (fun _ hK4 => ?_)
 obtain ⟨t5, wt5, h⟩ := bind_some' h
 refine st (cl fb113 (r03_Begin_ok  wt5) (fun v6 S7 e8 z9 => ?_))
 obtain rfl := z9
 obtain ⟨t10, wt10, h⟩ := bind_some' h
 refine st (cl fb114 (r03_Steps_ok  wt10) (fun v11 S12 e13 z14 => ?_))
 obtain rfl := z14
 refine st (OS.alloc _ (by decide) zero181 (fun ad15 => ?_))
 refine st (OS.alloc _ (by decide) zero183 (fun ad17 => ?_))
 refine sf 1 1 [sU32 t5] (aggV_cells _) (okS_cons (ok_sU32 _) oN) size181 ?_
 refine sf 0 1 [sU32 t10] (aggV_cells _) (okS_cons (ok_sU32 _) oN) size183 ?_
 refine nt hK4 ?_
 refine sr (fun _ hK19 => ?_)
 refine mv ?_
 obtain ⟨t20, wt20, h⟩ := bind_some' h
 refine st (cl fb115 (r03_Padded_ok a0 wt20) (fun v21 S22 e23 z24 => ?_))
 have q26 := z24
 refine an ?_
 refine nt hK19 ?_
 refine G.seq (fun _ hK27 => ?_)
 refine sr (fun _ hK28 => ?_)
 refine an ?_
 refine nt hK28 ?_
 refine G.block ?_
 obtain ⟨b34, wb34, ho35⟩ := bind_some' h
 refine G.keep [6, 5, 4, 3, 2] rfl ?_
 refine G.loopK (r03_Sum_s1 t10 t20) (fun s₀ E' S' L' => match s₀ with | (x31, x32) => S22.le S' ∧ E' = [(6, .int .i64 x31), (5, v21), (4, .pointer (some ⟨ad17, 0, none⟩)), (3, .pointer (some ⟨ad15, 0, none⟩)), (2, .pointer (some ⟨ad2, 0, none⟩))] ∧ Blk ad17 [sU32 t10] :: Blk ad15 [sU32 x32] :: Blk ad2 [sL zL] :: F = L') b34 0 (fun E₀ S₀ L₀ => ∃ (x31 : Int) (x32 : (Vector UInt32 8)), S22.le S₀ ∧ b34 = (x31, x32) ∧ E₀ = [(3, .pointer (some ⟨ad15, 0, none⟩)), (2, .pointer (some ⟨ad2, 0, none⟩))] ∧ Blk ad17 [sU32 t10] :: Blk ad15 [sU32 x32] :: Blk ad2 [sL zL] :: F = L₀) wb34 ?_ ?_ ?_
 ·rintro _ S184 _ ⟨x31, x32, e185, rfl, rfl, rfl⟩
  have h := ho35; clear ho35
  try dsimp only at h
  refine GX.exit_block ?_
  refine GX.then hK27 ?_
  refine sr (fun _ hK186 => ?_)
  refine vl (Y.buildA [] [sL zL] arr23 zero23 rfl (by kernel_rfl) (by kernel_rfl)) ?_
  refine st (OS.alloc _ (by decide) zero23 (fun ad187 => ?_))
  refine sf 0 1 [sL zL] (aggV_cells _) (oL oN) size23 ?_
  refine nt hK186 ?_
  refine G.seq (fun _ hK189 => ?_)
  refine sr (fun _ hK190 => ?_)
  refine mv ?_
  refine nt hK190 ?_
  refine G.block ?_
  obtain ⟨b196, wb196, ho197⟩ := bind_some' h
  refine G.keep [139, 16, 3, 2] rfl ?_
  refine G.loopK (r03_Sum_s4 x32) (fun s₀ E' S' L' => match s₀ with | (x193, x194) => S184.le S' ∧ E' = [(139, .int .i64 x193), (16, .pointer (some ⟨ad187, 0, none⟩)), (3, .pointer (some ⟨ad15, 0, none⟩)), (2, .pointer (some ⟨ad2, 0, none⟩))] ∧ Blk ad187 [sL x194] :: Blk ad17 [sU32 t10] :: Blk ad15 [sU32 x32] :: Blk ad2 [sL zL] :: F = L') b196 6 (fun E₀ S₀ L₀ => ∃ (x193 : Int) (x194 : Lab), S184.le S₀ ∧ b196 = (x193, x194) ∧ E₀ = [(16, .pointer (some ⟨ad187, 0, none⟩)), (2, .pointer (some ⟨ad2, 0, none⟩))] ∧ Blk ad187 [sL x194] :: Blk ad17 [sU32 t10] :: Blk ad15 [sU32 x32] :: Blk ad2 [sL zL] :: F = L₀) wb196 ?_ ?_ ?_
  ·rintro _ S206 _ ⟨x193, x194, e207, rfl, rfl, rfl⟩
   have h := ho197; clear ho197
   try dsimp only at h
   refine GX.exit_block ?_
   refine GX.then hK189 ?_
   refine sr (fun _ hK208 => ?_)
   refine lb 0 0 1 [sL x194] row23 ?_
   refine sf 3 1 [sL x194] (aggV_cells _) (oL oN) size23 ?_
   refine nt hK208 ?_
   refine G.ret ?_
   obtain rfl := Option.some.inj h
   exact hret _ _ _ _ 4 (l2 e8 (l2 e13 (l2 e23 (l2 e185 e207)))) (.cons (.row (k := 3) rfl rfl row23 (by kernel_rfl)) .nil) rfl rfl
  ·exact ⟨Hp.le_refl _, rfl, rfl⟩
  rintro ⟨x193, x194⟩ _ S191 _ ⟨e192, rfl, rfl⟩ out4 h hf4 K4 hK4 hx195
  rw [r03_Sum_s4] at h
  refine sr (fun _ hK198 => ?_)
  refine vl (Y.ltI rfl rfl) ?_
  refine nt hK198 ?_
  refine G.seq (fun _ hK199 => ?_)
  refine G.cond _ rfl (fun c200 => ?_) (fun c200 => ?_)
  ·replace h := ite_t c200 h
   refine sk hK199 ?_
   refine G.seq (fun _ hK201 => ?_)
   refine G.block ?_
   refine sr (fun _ hK202 => ?_)
   refine mv ?_
   refine an ?_
   refine nt hK202 ?_
   refine G.region ?_
   refine mv ?_
   refine mv ?_
   refine vl (Y.quoI rfl rfl (by decide)) ?_
   obtain ⟨g203, h⟩ := req_bind h
   refine vl (Y.idxA rfl rfl arr181 g203) ?_
   refine vl (Y.loadE 2  0 _ _ rfl rfl rfl rfl (at_sU32 _ _ g203) one180) ?_
   refine mv ?_
   refine vl (Y.remI rfl rfl (by decide)) ?_
   refine vl (Y.mulI rfl rfl) ?_
   refine vl (Y.subI rfl rfl) ?_
   obtain ⟨g204, h⟩ := req_bind h
   refine vl (Y.shr_u32 (a := (getV x32 (wrap64 (Int.tdiv x193 (4 : Int))))) (c := (wrap64 ((24 : Int) - (wrap64 ((Int.tmod x193 (4 : Int)) * (8 : Int)))))) rfl rfl g204) ?_
   refine vl (Y.cv_u32_u8 (a := (hr_u32 (getV x32 (wrap64 (Int.tdiv x193 (4 : Int)))) (wrap64 ((24 : Int) - (wrap64 ((Int.tmod x193 (4 : Int)) * (8 : Int))))))) rfl int180 int5) ?_
   obtain ⟨g205, h⟩ := req_bind h
   refine vl (Y.idxA rfl rfl arr23 g205) ?_
   refine st (OS.storeE 0 0 (sL (setV x194 x193 ((hr_u32 (getV x32 (wrap64 (Int.tdiv x193 (4 : Int)))) (wrap64 ((24 : Int) - (wrap64 ((Int.tmod x193 (4 : Int)) * (8 : Int)))))).toUInt8))) [sL (setV x194 x193 ((hr_u32 (getV x32 (wrap64 (Int.tdiv x193 (4 : Int)))) (wrap64 ((24 : Int) - (wrap64 ((Int.tmod x193 (4 : Int)) * (8 : Int)))))).toUInt8))] _ rfl rfl rfl rfl rfl rfl (lt_of_bnd g205) (set_sL _ _ _) rfl size5 ?_)
   refine GO.nil ?_
   refine GX.normal_block ?_
   refine GX.then hK201 ?_
   refine G.region ?_
   refine vl (Y.addI rfl rfl) ?_
   refine mv ?_
   refine GO.nil ?_
   obtain rfl := Option.some.inj h
   refine GX.keep [139, 16, 3, 2] rfl ?_
   exact hK4 _ _ _ _ rfl ⟨e192, rfl, rfl⟩
  replace h := ite_f c200 h
  refine G.exit ?_
  refine GX.exit_then ?_
  obtain rfl := Option.some.inj h
  refine GX.keep [16, 2] rfl ?_
  exact hx195 _ _ _ ⟨_, _, e192, (hf4 _ rfl).symm, rfl, rfl⟩
 ·exact ⟨Hp.le_refl _, rfl, rfl⟩
 rintro ⟨x31, x32⟩ _ S29 _ ⟨e30, rfl, rfl⟩ out1 h hf1 K1 hK1 hx33
 rw [r03_Sum_s1] at h
 replace q26 := q26.up e30
 refine G.seq (fun _ hK36 => ?_)
 refine sr (fun _ hK37 => ?_)
 refine mv ?_
 refine mv ?_
 refine vl (Y.lenS rfl q26 slc102) ?_
 refine vl (Y.ltI rfl rfl) ?_
 refine nt hK37 ?_
 refine G.cond _ rfl (fun c38 => ?_) (fun c38 => ?_)
 ·replace h := ite_t c38 h
  refine sk hK36 ?_
  refine G.seq (fun _ hK39 => ?_)
  refine G.block ?_
  refine sr (fun _ hK40 => ?_)
  refine mv ?_
  refine mv ?_
  refine mv ?_
  refine vl (Y.addI rfl rfl) ?_
  obtain ⟨g41, h⟩ := req_bind h
  refine st (OS.sliceS x31 (wrap64 (x31 + (64 : Int))) (some (.int .i64 x31)) (some (.int .i64 (wrap64 (x31 + (64 : Int))))) (by decide) rfl q26 slc102 rfl rfl (.inr ⟨_, rfl⟩) (.inr ⟨_, rfl⟩) g41 (fun v42 q43 => ?_))
  obtain ⟨t44, wt44, h⟩ := bind_some' h
  refine st (cl fb116 (r03_Words_ok (cutL t20 x31 (wrap64 (x31 + (64 : Int)))) q43 wt44) (fun v45 S46 e47 z48 => ?_))
  replace q26 := q26.up e47
  replace q43 := q43.up e47
  obtain rfl := z48
  refine st (OS.alloc _ (by decide) zero183 (fun ad49 => ?_))
  refine sf 0 1 [sU32 t44] (aggV_cells _) (okS_cons (ok_sU32 _) oN) size183 ?_
  refine nt hK40 ?_
  refine sr (fun _ hK51 => ?_)
  refine lb 2 0 1 [sU32 x32] row181 ?_
  refine st (OS.alloc _ (by decide) zero181 (fun ad52 => ?_))
  refine sf 0 1 [sU32 x32] (aggV_cells _) (okS_cons (ok_sU32 _) oN) size181 ?_
  refine nt hK51 ?_
  refine G.seq (fun _ hK54 => ?_)
  refine sr (fun _ hK55 => ?_)
  refine an ?_
  refine nt hK55 ?_
  refine G.block ?_
  obtain ⟨b61, wb61, ho62⟩ := bind_some' h
  refine G.keep [9, 8, 7, 6, 5, 4, 3, 2] rfl ?_
  refine G.loopK (r03_Sum_s2 t10 t44) (fun s₀ E' S' L' => match s₀ with | (x58, x59) => S46.le S' ∧ E' = [(9, .int .i64 x58), (8, .pointer (some ⟨ad52, 0, none⟩)), (7, .pointer (some ⟨ad49, 0, none⟩)), (6, .int .i64 x31), (5, v21), (4, .pointer (some ⟨ad17, 0, none⟩)), (3, .pointer (some ⟨ad15, 0, none⟩)), (2, .pointer (some ⟨ad2, 0, none⟩))] ∧ Blk ad52 [sU32 x59] :: Blk ad49 [sU32 t44] :: Blk ad17 [sU32 t10] :: Blk ad15 [sU32 x32] :: Blk ad2 [sL zL] :: F = L') b61 2 (fun E₀ S₀ L₀ => ∃ (x58 : Int) (x59 : (Vector UInt32 8)), S46.le S₀ ∧ b61 = (x58, x59) ∧ E₀ = [(8, .pointer (some ⟨ad52, 0, none⟩)), (6, .int .i64 x31), (5, v21), (4, .pointer (some ⟨ad17, 0, none⟩)), (3, .pointer (some ⟨ad15, 0, none⟩)), (2, .pointer (some ⟨ad2, 0, none⟩))] ∧ Blk ad52 [sU32 x59] :: Blk ad49 [sU32 t44] :: Blk ad17 [sU32 t10] :: Blk ad15 [sU32 x32] :: Blk ad2 [sL zL] :: F = L₀) wb61 ?_ ?_ ?_
  ·rintro _ S164 _ ⟨x58, x59, e165, rfl, rfl, rfl⟩
   have h := ho62; clear ho62
   try dsimp only at h
   replace q26 := q26.up e165
   refine GX.exit_block ?_
   refine GX.then hK54 ?_
   refine sr (fun _ hK166 => ?_)
   refine mv ?_
   refine nt hK166 ?_
   refine G.block ?_
   obtain ⟨b172, wb172, ho173⟩ := bind_some' h
   refine G.keep [126, 8, 6, 5, 4, 3, 2] rfl ?_
   refine G.loopK (r03_Sum_s3 x59) (fun s₀ E' S' L' => match s₀ with | (x169, x170) => S164.le S' ∧ E' = [(126, .int .i64 x169), (8, .pointer (some ⟨ad52, 0, none⟩)), (6, .int .i64 x31), (5, v21), (4, .pointer (some ⟨ad17, 0, none⟩)), (3, .pointer (some ⟨ad15, 0, none⟩)), (2, .pointer (some ⟨ad2, 0, none⟩))] ∧ Blk ad52 [sU32 x59] :: Blk ad49 [sU32 t44] :: Blk ad17 [sU32 t10] :: Blk ad15 [sU32 x170] :: Blk ad2 [sL zL] :: F = L') b172 4 (fun E₀ S₀ L₀ => ∃ (x169 : Int) (x170 : (Vector UInt32 8)), S164.le S₀ ∧ b172 = (x169, x170) ∧ E₀ = [(6, .int .i64 x31), (5, v21), (4, .pointer (some ⟨ad17, 0, none⟩)), (3, .pointer (some ⟨ad15, 0, none⟩)), (2, .pointer (some ⟨ad2, 0, none⟩))] ∧ Blk ad52 [sU32 x59] :: Blk ad49 [sU32 t44] :: Blk ad17 [sU32 t10] :: Blk ad15 [sU32 x170] :: Blk ad2 [sL zL] :: F = L₀) wb172 ?_ ?_ ?_
   ·rintro _ S182 _ ⟨x169, x170, e183, rfl, rfl, rfl⟩
    have h := ho173; clear ho173
    try dsimp only at h
    replace q26 := q26.up e183
    refine GX.exit_block ?_
    refine GX.normal_block ?_
    refine GX.then hK39 ?_
    refine G.region ?_
    refine mv ?_
    refine vl (Y.addI rfl rfl) ?_
    refine an ?_
    refine GO.nil ?_
    obtain rfl := Option.some.inj h
    refine GX.keep [6, 5, 4, 3, 2] rfl ?_
    refine GX.less 2 rfl ?_
    exact hK1 _ _ _ _ rfl ⟨(l2 e30 (l2 e47 (l2 e165 e183))), rfl, rfl⟩
   ·exact ⟨Hp.le_refl _, rfl, rfl⟩
   rintro ⟨x169, x170⟩ _ S167 _ ⟨e168, rfl, rfl⟩ out3 h hf3 K3 hK3 hx171
   rw [r03_Sum_s3] at h
   replace q26 := q26.up e168
   refine sr (fun _ hK174 => ?_)
   refine vl (Y.ltI rfl rfl) ?_
   refine nt hK174 ?_
   refine G.seq (fun _ hK175 => ?_)
   refine G.cond _ rfl (fun c176 => ?_) (fun c176 => ?_)
   ·replace h := ite_t c176 h
    refine sk hK175 ?_
    refine G.seq (fun _ hK177 => ?_)
    refine G.block ?_
    refine sr (fun _ hK178 => ?_)
    refine mv ?_
    refine an ?_
    refine nt hK178 ?_
    obtain ⟨g179, h⟩ := req_bind h
    obtain ⟨g180, h⟩ := req_bind h
    obtain ⟨g181, h⟩ := req_bind h
    refine G.drawS 8 _ (Blk ad52 [sU32 x59] :: Blk ad49 [sU32 t44] :: Blk ad17 [sU32 t10] :: (fun _ => True) :: Blk ad2 [sL zL] :: F) mixed .refl (by kernel_rfl) ?_
    refine tx 0 rfl (.same (.same (.same (.lose .refl)))) hQ (fun _ _ _ => Y.move rfl) ?_
    refine tx 1 rfl (.same (.same (.same (.lose .refl)))) hQ (fun _ _ _ => Y.idxA rfl rfl arr181 g179) ?_
    refine tk 2 [2, 8] rfl hQ Gd.none (fun S₀ X₀ e₀ => Y.loadE (X₀.length + 3)  0 _ _ rfl (Lk rfl) rfl rfl (at_sU32 _ _ g179) one180) ?_
    refine tx 3 rfl (.same (.same (.same (.lose .refl)))) hQ (fun _ _ _ => Y.move rfl) ?_
    refine tx 4 rfl (.same (.same (.same (.lose .refl)))) hQ (fun _ _ _ => Y.idxA rfl rfl arr181 g180) ?_
    refine tx 5 rfl (.same (.same (.same (.lose .refl)))) hQ (fun S₀ X₀ e₀ => Y.loadE (X₀.length + 0)  0 _ _ rfl (Lk rfl) rfl rfl (at_sU32 _ _ g180) one180) ?_
    refine tx 6 rfl (.same (.same (.same (.lose .refl)))) hQ (fun _ _ _ => Y.add_u32 (a := (getV x170 x169)) (b := (getV x59 x169)) rfl rfl) ?_
    refine tx 7 rfl (.same (.same (.same (.lose .refl)))) hQ (fun _ _ _ => Y.idxA rfl rfl arr181 g181) ?_
    refine g1 8 ?_
    refine n2 rfl (OS.storeE 3 0 (sU32 (setV x170 x169 ((getV x170 x169) + (getV x59 x169)))) [sU32 (setV x170 x169 ((getV x170 x169) + (getV x59 x169)))] _ rfl rfl rfl rfl rfl rfl (lt_of_bnd g181) (set_sU32 _ _ _) rfl size180 ⟨⟨[], (.same (.same (.same (.lose .refl)))), l0⟩, ?_⟩)
    refine dn ?_
    refine GX.normal_block ?_
    refine GX.then hK177 ?_
    refine G.region ?_
    refine vl (Y.addI rfl rfl) ?_
    refine mv ?_
    refine GO.nil ?_
    obtain rfl := Option.some.inj h
    refine GX.keep [126, 8, 6, 5, 4, 3, 2] rfl ?_
    exact hK3 _ _ _ _ rfl ⟨e168, rfl, rfl⟩
   replace h := ite_f c176 h
   refine G.exit ?_
   refine GX.exit_then ?_
   obtain rfl := Option.some.inj h
   refine GX.keep [6, 5, 4, 3, 2] rfl ?_
   exact hx171 _ _ _ ⟨_, _, e168, (hf3 _ rfl).symm, rfl, rfl⟩
  ·exact ⟨Hp.le_refl _, rfl, rfl⟩
  rintro ⟨x58, x59⟩ _ S56 _ ⟨e57, rfl, rfl⟩ out2 h hf2 K2 hK2 hx60
  rw [r03_Sum_s2] at h
  replace q26 := q26.up e57
  refine G.seq (fun _ hK63 => ?_)
  refine sr (fun _ hK64 => ?_)
  refine mv ?_
  refine vl (Y.ltI rfl rfl) ?_
  refine nt hK64 ?_
  refine G.cond _ rfl (fun c65 => ?_) (fun c65 => ?_)
  ·replace h := ite_t c65 h
   refine sk hK63 ?_
   refine G.seq (fun _ hK66 => ?_)
   refine G.block ?_
   refine G.seq (fun _ hK67 => ?_)
   obtain ⟨t69, wt69, h⟩ := bind_some' h
   obtain ⟨t76, wt76, h⟩ := bind_some' h
   obtain ⟨t83, wt83, h⟩ := bind_some' h
   refine G.drawN 12 mixed (by kernel_rfl) ?_
   refine tn 0 rfl hQ (fun _ _ _ => Y.idxA rfl rfl arr181 (by decide)) ?_
   refine tn 1 rfl hQ (fun S₀ X₀ e₀ => Y.loadE (X₀.length + 0)  0 _ _ rfl (Lk rfl) rfl rfl (at_sU32 _ _ (by decide)) one180) ?_
   refine tn 3 rfl hQ (fun _ _ _ => Y.idxA rfl rfl arr181 (by decide)) ?_
   refine tn 4 rfl hQ (fun S₀ X₀ e₀ => Y.loadE (X₀.length + 0)  0 _ _ rfl (Lk rfl) rfl rfl (at_sU32 _ _ (by decide)) one180) ?_
   refine tn 7 rfl hQ (fun _ _ _ => Y.idxA rfl rfl arr181 (by decide)) ?_
   refine tn 8 rfl hQ (fun S₀ X₀ e₀ => Y.loadE (X₀.length + 0)  0 _ _ rfl (Lk rfl) rfl rfl (at_sU32 _ _ (by decide)) one180) ?_
   refine g1 2 ?_
   refine n1 rfl (cl fb117 (r03_right_ok (getV x59 (4 : Int)) (6 : Int) wt69) (fun v89 S90 e91 z92 => ⟨⟨[], .refl, e91⟩, ?_⟩))
   have q93 := q26.up e91
   obtain rfl := z92
   refine g1 5 ?_
   refine n1 rfl (cl fb117 (r03_right_ok (getV x59 (4 : Int)) (11 : Int) wt76) (fun v94 S95 e96 z97 => ⟨⟨[], .refl, (l2 e91 e96)⟩, ?_⟩))
   have q98 := q93.up e96
   obtain rfl := z97
   refine tn 6 rfl hQ (fun _ _ _ => Y.xor_u32 (a := t69) (b := t76) rfl rfl) ?_
   refine g1 9 ?_
   refine n1 rfl (cl fb117 (r03_right_ok (getV x59 (4 : Int)) (25 : Int) wt83) (fun v99 S100 e101 z102 => ⟨⟨[], .refl, (l2 e91 (l2 e96 e101))⟩, ?_⟩))
   have q103 := q98.up e101
   obtain rfl := z102
   refine tn 10 rfl hQ (fun _ _ _ => Y.xor_u32 (a := (t69 ^^^ t76)) (b := t83) rfl rfl) ?_
   refine tn 11 rfl hQ (fun _ _ _ => Y.assign rfl) ?_
   refine dn ?_
   refine GX.then hK67 ?_
   refine sr (fun _ hK104 => ?_)
   refine vl (Y.idxA rfl rfl arr181 (by decide)) ?_
   refine vl (Y.loadE 0  0 _ _ rfl rfl rfl rfl (at_sU32 _ _ (by decide)) one180) ?_
   refine vl (Y.idxA rfl rfl arr181 (by decide)) ?_
   refine vl (Y.loadE 0  0 _ _ rfl rfl rfl rfl (at_sU32 _ _ (by decide)) one180) ?_
   refine vl (Y.and_u32 (a := (getV x59 (4 : Int))) (b := (getV x59 (5 : Int))) rfl rfl) ?_
   refine vl (Y.idxA rfl rfl arr181 (by decide)) ?_
   refine vl (Y.loadE 0  0 _ _ rfl rfl rfl rfl (at_sU32 _ _ (by decide)) one180) ?_
   refine vl (Y.sub_u32 (a := 4294967295) (b := (getV x59 (4 : Int))) rfl rfl) ?_
   refine vl (Y.idxA rfl rfl arr181 (by decide)) ?_
   refine vl (Y.loadE 0  0 _ _ rfl rfl rfl rfl (at_sU32 _ _ (by decide)) one180) ?_
   refine vl (Y.and_u32 (a := (4294967295 - (getV x59 (4 : Int)))) (b := (getV x59 (6 : Int))) rfl rfl) ?_
   refine vl (Y.or_u32 (a := ((getV x59 (4 : Int)) &&& (getV x59 (5 : Int)))) (b := ((4294967295 - (getV x59 (4 : Int))) &&& (getV x59 (6 : Int)))) rfl rfl) ?_
   refine an ?_
   refine nt hK104 ?_
   refine G.seq (fun _ hK109 => ?_)
   obtain ⟨g111, h⟩ := req_bind h
   obtain ⟨g112, h⟩ := req_bind h
   refine G.drawN 15 mixed (by kernel_rfl) ?_
   refine tn 0 rfl hQ (fun _ _ _ => Y.idxA rfl rfl arr181 (by decide)) ?_
   refine tn 1 rfl hQ (fun S₀ X₀ e₀ => Y.loadE (X₀.length + 0)  0 _ _ rfl (Lk rfl) rfl rfl (at_sU32 _ _ (by decide)) one180) ?_
   refine tn 2 rfl hQ (fun _ _ _ => Y.move rfl) ?_
   refine tn 3 rfl hQ (fun _ _ _ => Y.add_u32 (a := (getV x59 (7 : Int))) (b := ((t69 ^^^ t76) ^^^ t83)) rfl rfl) ?_
   refine tn 4 rfl hQ (fun _ _ _ => Y.move rfl) ?_
   refine tn 5 rfl hQ (fun _ _ _ => Y.add_u32 (a := ((getV x59 (7 : Int)) + ((t69 ^^^ t76) ^^^ t83))) (b := (((getV x59 (4 : Int)) &&& (getV x59 (5 : Int))) ||| ((4294967295 - (getV x59 (4 : Int))) &&& (getV x59 (6 : Int))))) rfl rfl) ?_
   refine tn 6 rfl hQ (fun _ _ _ => Y.move rfl) ?_
   refine tn 7 rfl hQ (fun _ _ _ => Y.idxA rfl rfl arr183 g111) ?_
   refine tn 8 rfl hQ (fun S₀ X₀ e₀ => Y.loadE (X₀.length + 2)  0 _ _ rfl (Lk rfl) rfl rfl (at_sU32 _ _ g111) one180) ?_
   refine tn 9 rfl hQ (fun _ _ _ => Y.add_u32 (a := (((getV x59 (7 : Int)) + ((t69 ^^^ t76) ^^^ t83)) + (((getV x59 (4 : Int)) &&& (getV x59 (5 : Int))) ||| ((4294967295 - (getV x59 (4 : Int))) &&& (getV x59 (6 : Int)))))) (b := (getV t10 x58)) rfl rfl) ?_
   refine tn 10 rfl hQ (fun _ _ _ => Y.move rfl) ?_
   refine tn 11 rfl hQ (fun _ _ _ => Y.idxA rfl rfl arr183 g112) ?_
   refine tn 12 rfl hQ (fun S₀ X₀ e₀ => Y.loadE (X₀.length + 1)  0 _ _ rfl (Lk rfl) rfl rfl (at_sU32 _ _ g112) one180) ?_
   refine tn 13 rfl hQ (fun _ _ _ => Y.add_u32 (a := ((((getV x59 (7 : Int)) + ((t69 ^^^ t76) ^^^ t83)) + (((getV x59 (4 : Int)) &&& (getV x59 (5 : Int))) ||| ((4294967295 - (getV x59 (4 : Int))) &&& (getV x59 (6 : Int))))) + (getV t10 x58))) (b := (getV t44 x58)) rfl rfl) ?_
   refine tn 14 rfl hQ (fun _ _ _ => Y.assign rfl) ?_
   refine dn ?_
   refine GX.then hK109 ?_
   refine G.seq (fun _ hK113 => ?_)
   obtain ⟨t115, wt115, h⟩ := bind_some' h
   obtain ⟨t122, wt122, h⟩ := bind_some' h
   obtain ⟨t129, wt129, h⟩ := bind_some' h
   refine G.drawN 12 mixed (by kernel_rfl) ?_
   refine tn 0 rfl hQ (fun _ _ _ => Y.idxA rfl rfl arr181 (by decide)) ?_
   refine tn 1 rfl hQ (fun S₀ X₀ e₀ => Y.loadE (X₀.length + 0)  0 _ _ rfl (Lk rfl) rfl rfl (at_sU32 _ _ (by decide)) one180) ?_
   refine tn 3 rfl hQ (fun _ _ _ => Y.idxA rfl rfl arr181 (by decide)) ?_
   refine tn 4 rfl hQ (fun S₀ X₀ e₀ => Y.loadE (X₀.length + 0)  0 _ _ rfl (Lk rfl) rfl rfl (at_sU32 _ _ (by decide)) one180) ?_
   refine tn 7 rfl hQ (fun _ _ _ => Y.idxA rfl rfl arr181 (by decide)) ?_
   refine tn 8 rfl hQ (fun S₀ X₀ e₀ => Y.loadE (X₀.length + 0)  0 _ _ rfl (Lk rfl) rfl rfl (at_sU32 _ _ (by decide)) one180) ?_
   refine g1 2 ?_
   refine n1 rfl (cl fb117 (r03_right_ok (getV x59 (0 : Int)) (2 : Int) wt115) (fun v135 S136 e137 z138 => ⟨⟨[], .refl, e137⟩, ?_⟩))
   have q139 := q103.up e137
   obtain rfl := z138
   refine g1 5 ?_
   refine n1 rfl (cl fb117 (r03_right_ok (getV x59 (0 : Int)) (13 : Int) wt122) (fun v140 S141 e142 z143 => ⟨⟨[], .refl, (l2 e137 e142)⟩, ?_⟩))
   have q144 := q139.up e142
   obtain rfl := z143
   refine tn 6 rfl hQ (fun _ _ _ => Y.xor_u32 (a := t115) (b := t122) rfl rfl) ?_
   refine g1 9 ?_
   refine n1 rfl (cl fb117 (r03_right_ok (getV x59 (0 : Int)) (22 : Int) wt129) (fun v145 S146 e147 z148 => ⟨⟨[], .refl, (l2 e137 (l2 e142 e147))⟩, ?_⟩))
   have q149 := q144.up e147
   obtain rfl := z148
   refine tn 10 rfl hQ (fun _ _ _ => Y.xor_u32 (a := (t115 ^^^ t122)) (b := t129) rfl rfl) ?_
   refine tn 11 rfl hQ (fun _ _ _ => Y.assign rfl) ?_
   refine dn ?_
   refine GX.then hK113 ?_
   refine sr (fun _ hK150 => ?_)
   refine vl (Y.idxA rfl rfl arr181 (by decide)) ?_
   refine vl (Y.loadE 0  0 _ _ rfl rfl rfl rfl (at_sU32 _ _ (by decide)) one180) ?_
   refine vl (Y.idxA rfl rfl arr181 (by decide)) ?_
   refine vl (Y.loadE 0  0 _ _ rfl rfl rfl rfl (at_sU32 _ _ (by decide)) one180) ?_
   refine vl (Y.and_u32 (a := (getV x59 (0 : Int))) (b := (getV x59 (1 : Int))) rfl rfl) ?_
   refine vl (Y.idxA rfl rfl arr181 (by decide)) ?_
   refine vl (Y.loadE 0  0 _ _ rfl rfl rfl rfl (at_sU32 _ _ (by decide)) one180) ?_
   refine vl (Y.idxA rfl rfl arr181 (by decide)) ?_
   refine vl (Y.loadE 0  0 _ _ rfl rfl rfl rfl (at_sU32 _ _ (by decide)) one180) ?_
   refine vl (Y.and_u32 (a := (getV x59 (0 : Int))) (b := (getV x59 (2 : Int))) rfl rfl) ?_
   refine vl (Y.or_u32 (a := ((getV x59 (0 : Int)) &&& (getV x59 (1 : Int)))) (b := ((getV x59 (0 : Int)) &&& (getV x59 (2 : Int)))) rfl rfl) ?_
   refine vl (Y.idxA rfl rfl arr181 (by decide)) ?_
   refine vl (Y.loadE 0  0 _ _ rfl rfl rfl rfl (at_sU32 _ _ (by decide)) one180) ?_
   refine vl (Y.idxA rfl rfl arr181 (by decide)) ?_
   refine vl (Y.loadE 0  0 _ _ rfl rfl rfl rfl (at_sU32 _ _ (by decide)) one180) ?_
   refine vl (Y.and_u32 (a := (getV x59 (1 : Int))) (b := (getV x59 (2 : Int))) rfl rfl) ?_
   refine vl (Y.or_u32 (a := (((getV x59 (0 : Int)) &&& (getV x59 (1 : Int))) ||| ((getV x59 (0 : Int)) &&& (getV x59 (2 : Int))))) (b := ((getV x59 (1 : Int)) &&& (getV x59 (2 : Int)))) rfl rfl) ?_
   refine an ?_
   refine nt hK150 ?_
   refine G.region ?_
   refine mv ?_
   refine mv ?_
   refine vl (Y.add_u32 (a := (((((getV x59 (7 : Int)) + ((t69 ^^^ t76) ^^^ t83)) + (((getV x59 (4 : Int)) &&& (getV x59 (5 : Int))) ||| ((4294967295 - (getV x59 (4 : Int))) &&& (getV x59 (6 : Int))))) + (getV t10 x58)) + (getV t44 x58))) (b := ((t115 ^^^ t122) ^^^ t129)) rfl rfl) ?_
   refine mv ?_
   refine vl (Y.add_u32 (a := ((((((getV x59 (7 : Int)) + ((t69 ^^^ t76) ^^^ t83)) + (((getV x59 (4 : Int)) &&& (getV x59 (5 : Int))) ||| ((4294967295 - (getV x59 (4 : Int))) &&& (getV x59 (6 : Int))))) + (getV t10 x58)) + (getV t44 x58)) + ((t115 ^^^ t122) ^^^ t129))) (b := ((((getV x59 (0 : Int)) &&& (getV x59 (1 : Int))) ||| ((getV x59 (0 : Int)) &&& (getV x59 (2 : Int)))) ||| ((getV x59 (1 : Int)) &&& (getV x59 (2 : Int))))) rfl rfl) ?_
   refine vl (Y.idxA rfl rfl arr181 (by decide)) ?_
   refine vl (Y.loadE 0  0 _ _ rfl rfl rfl rfl (at_sU32 _ _ (by decide)) one180) ?_
   refine vl (Y.idxA rfl rfl arr181 (by decide)) ?_
   refine vl (Y.loadE 0  0 _ _ rfl rfl rfl rfl (at_sU32 _ _ (by decide)) one180) ?_
   refine vl (Y.idxA rfl rfl arr181 (by decide)) ?_
   refine vl (Y.loadE 0  0 _ _ rfl rfl rfl rfl (at_sU32 _ _ (by decide)) one180) ?_
   refine vl (Y.idxA rfl rfl arr181 (by decide)) ?_
   refine vl (Y.loadE 0  0 _ _ rfl rfl rfl rfl (at_sU32 _ _ (by decide)) one180) ?_
   refine mv ?_
   refine vl (Y.add_u32 (a := (getV x59 (3 : Int))) (b := (((((getV x59 (7 : Int)) + ((t69 ^^^ t76) ^^^ t83)) + (((getV x59 (4 : Int)) &&& (getV x59 (5 : Int))) ||| ((4294967295 - (getV x59 (4 : Int))) &&& (getV x59 (6 : Int))))) + (getV t10 x58)) + (getV t44 x58))) rfl rfl) ?_
   refine vl (Y.idxA rfl rfl arr181 (by decide)) ?_
   refine vl (Y.loadE 0  0 _ _ rfl rfl rfl rfl (at_sU32 _ _ (by decide)) one180) ?_
   refine vl (Y.idxA rfl rfl arr181 (by decide)) ?_
   refine vl (Y.loadE 0  0 _ _ rfl rfl rfl rfl (at_sU32 _ _ (by decide)) one180) ?_
   refine vl (Y.idxA rfl rfl arr181 (by decide)) ?_
   refine vl (Y.loadE 0  0 _ _ rfl rfl rfl rfl (at_sU32 _ _ (by decide)) one180) ?_
   refine vl (Y.buildA [u32V (((((((getV x59 (7 : Int)) + ((t69 ^^^ t76) ^^^ t83)) + (((getV x59 (4 : Int)) &&& (getV x59 (5 : Int))) ||| ((4294967295 - (getV x59 (4 : Int))) &&& (getV x59 (6 : Int))))) + (getV t10 x58)) + (getV t44 x58)) + ((t115 ^^^ t122) ^^^ t129)) + ((((getV x59 (0 : Int)) &&& (getV x59 (1 : Int))) ||| ((getV x59 (0 : Int)) &&& (getV x59 (2 : Int)))) ||| ((getV x59 (1 : Int)) &&& (getV x59 (2 : Int))))), u32V (getV x59 (0 : Int)), u32V (getV x59 (1 : Int)), u32V (getV x59 (2 : Int)), u32V ((getV x59 (3 : Int)) + (((((getV x59 (7 : Int)) + ((t69 ^^^ t76) ^^^ t83)) + (((getV x59 (4 : Int)) &&& (getV x59 (5 : Int))) ||| ((4294967295 - (getV x59 (4 : Int))) &&& (getV x59 (6 : Int))))) + (getV t10 x58)) + (getV t44 x58))), u32V (getV x59 (4 : Int)), u32V (getV x59 (5 : Int)), u32V (getV x59 (6 : Int))] [sU32 (#v[(((((((getV x59 (7 : Int)) + ((t69 ^^^ t76) ^^^ t83)) + (((getV x59 (4 : Int)) &&& (getV x59 (5 : Int))) ||| ((4294967295 - (getV x59 (4 : Int))) &&& (getV x59 (6 : Int))))) + (getV t10 x58)) + (getV t44 x58)) + ((t115 ^^^ t122) ^^^ t129)) + ((((getV x59 (0 : Int)) &&& (getV x59 (1 : Int))) ||| ((getV x59 (0 : Int)) &&& (getV x59 (2 : Int)))) ||| ((getV x59 (1 : Int)) &&& (getV x59 (2 : Int))))), (getV x59 (0 : Int)), (getV x59 (1 : Int)), (getV x59 (2 : Int)), ((getV x59 (3 : Int)) + (((((getV x59 (7 : Int)) + ((t69 ^^^ t76) ^^^ t83)) + (((getV x59 (4 : Int)) &&& (getV x59 (5 : Int))) ||| ((4294967295 - (getV x59 (4 : Int))) &&& (getV x59 (6 : Int))))) + (getV t10 x58)) + (getV t44 x58))), (getV x59 (4 : Int)), (getV x59 (5 : Int)), (getV x59 (6 : Int))])] arr181 zero181 rfl (by kernel_rfl) (by kernel_rfl)) ?_
   refine sf 0 1 [sU32 (#v[(((((((getV x59 (7 : Int)) + ((t69 ^^^ t76) ^^^ t83)) + (((getV x59 (4 : Int)) &&& (getV x59 (5 : Int))) ||| ((4294967295 - (getV x59 (4 : Int))) &&& (getV x59 (6 : Int))))) + (getV t10 x58)) + (getV t44 x58)) + ((t115 ^^^ t122) ^^^ t129)) + ((((getV x59 (0 : Int)) &&& (getV x59 (1 : Int))) ||| ((getV x59 (0 : Int)) &&& (getV x59 (2 : Int)))) ||| ((getV x59 (1 : Int)) &&& (getV x59 (2 : Int))))), (getV x59 (0 : Int)), (getV x59 (1 : Int)), (getV x59 (2 : Int)), ((getV x59 (3 : Int)) + (((((getV x59 (7 : Int)) + ((t69 ^^^ t76) ^^^ t83)) + (((getV x59 (4 : Int)) &&& (getV x59 (5 : Int))) ||| ((4294967295 - (getV x59 (4 : Int))) &&& (getV x59 (6 : Int))))) + (getV t10 x58)) + (getV t44 x58))), (getV x59 (4 : Int)), (getV x59 (5 : Int)), (getV x59 (6 : Int))])] (aggV_cells _) (okS_cons (ok_sU32 _) oN) size181 ?_
   refine GO.nil ?_
   refine GX.normal_block ?_
   refine GX.then hK66 ?_
   refine G.region ?_
   refine mv ?_
   refine vl (Y.addI rfl rfl) ?_
   refine an ?_
   refine GO.nil ?_
   obtain rfl := Option.some.inj h
   refine GX.keep [9, 8, 7, 6, 5, 4, 3, 2] rfl ?_
   exact hK2 _ _ _ _ rfl ⟨(l2 e57 (l2 e91 (l2 e96 (l2 e101 (l2 e137 (l2 e142 e147)))))), rfl, rfl⟩
  replace h := ite_f c65 h
  refine G.exit ?_
  refine GX.exit_then ?_
  obtain rfl := Option.some.inj h
  refine GX.keep [8, 6, 5, 4, 3, 2] rfl ?_
  exact hx60 _ _ _ ⟨_, _, e57, (hf2 _ rfl).symm, rfl, rfl⟩
 replace h := ite_f c38 h
 refine G.exit ?_
 refine GX.exit_then ?_
 obtain rfl := Option.some.inj h
 refine GX.keep [3, 2] rfl ?_
 exact hx33 _ _ _ ⟨_, _, e30, (hf1 _ rfl).symm, rfl, rfl⟩

end
end Go.Ch
end
section
/- Functions of the program: what each comes to, proved. -/
set_option linter.unusedVariables false
set_option linter.unusedSimpArgs false
set_option maxRecDepth 100000
set_option maxHeartbeats 4000000
namespace Go.Ch
open Go.RowKit (wrap64)
open Go.Proofs
noncomputable section
/- chirograph/chirographref16.Leaf -/
def r16_Leaf  (a0 : Leaf) : Option Item :=
 ((r15_LeafBytes a0).bind fun t7 => ((r03_Sum t7).bind fun t12 => some (⟨(256 : Int), a0.label, t12, a0.at_⟩ : Item)))

theorem r16_Leaf_ok {S : Hp} (a0 : Leaf) {r : Item} (h : r16_Leaf a0 = some r) : Fn Tryz.prog 57 [aggV [sL a0.label, sL a0.value, sV (.int .i64 a0.at_)]] S (fun v S' => v = aggV [sV (.int .i64 r.len), sL r.bits, sL r.sum, sV (.int .i64 r.at_)]) := by
 unfold r16_Leaf at h
 refine fo [.cell 2 45] 11 Tryz.func57 Tryz.ntmps57 (fun o F Q hQ hN hret => ?_)
 refine sr (fun _ hK1 => ?_)
 refine st (OS.boxA (by decide) rfl (fun ad2 => ?_))
 refine st (OS.alloc _ (by decide) zero45 (fun ad4 => ?_))
 refine nt hK1 ?_
 refine G.seq (fun _ hK6 => ?_)
 obtain ⟨t7, wt7, h⟩ := bind_some' h
 obtain ⟨t12, wt12, h⟩ := bind_some' h
 refine G.drawS 8 _ ((fun _ => True) :: Blk ad2 [sL a0.label, sL a0.value, sV (.int .i64 a0.at_)] :: F) mixed .refl (by kernel_rfl) ?_
 refine tx 0 rfl (.lose .refl) hQ (fun _ _ _ => Y.fieldAddr 0 rfl fld41_0 rfl) ?_
 refine tx 1 rfl (.lose .refl) hQ (fun S₀ X₀ e₀ => Y.loadB (X₀.length + 1)  0 1 [sL a0.label] rfl (Lk rfl) rfl rfl row23 (by kernel_rfl)) ?_
 refine tx 2 rfl (.lose .refl) hQ (fun S₀ X₀ e₀ => Y.loadB (X₀.length + 1)  0 3 [sL a0.label, sL a0.value, sV (.int .i64 a0.at_)] rfl (Lk rfl) rfl rfl row41 (by kernel_rfl)) ?_
 refine tx 5 rfl (.lose .refl) hQ (fun _ _ _ => Y.fieldAddr 64 rfl fld41_2 rfl) ?_
 refine tx 6 rfl (.lose .refl) hQ (fun S₀ X₀ e₀ => Y.loadV (X₀.length + 1)  2 _ rfl (Lk rfl) rfl rfl one3) ?_
 refine g1 3 ?_
 refine n1 rfl (cl fb56 (r15_LeafBytes_ok a0 wt7) (fun v17 S18 e19 z20 => ⟨⟨[], .refl, e19⟩, ?_⟩))
 obtain rfl := z20
 refine g1 4 ?_
 refine n1 rfl (cl fb39 (r03_Sum_ok t7 wt12) (fun v21 S22 e23 z24 => ⟨⟨[], .refl, (l2 e19 e23)⟩, ?_⟩))
 obtain rfl := z24
 refine tx 7 rfl (.lose .refl) hQ (fun _ _ _ => Y.buildE _ [sV (.int .i64 (256 : Int)), sL a0.label, sL t12, sV (.int .i64 a0.at_)] strt45 zero45 rfl (.cons 0 1 [sV (.int .i64 (256 : Int))] rfl rfl rfl rfl rfl (.cons 1 1 [sL a0.label] rfl (aggV_cells _) rfl rfl rfl (.cons 2 1 [sL t12] rfl (aggV_cells _) rfl rfl rfl (.cons 3 1 [sV (.int .i64 a0.at_)] rfl rfl rfl rfl rfl .nil))))) ?_
 refine g1 8 ?_
 refine n2 rfl (OS.store 0 0 4 [sV (.int .i64 (256 : Int)), sL a0.label, sL t12, sV (.int .i64 a0.at_)] (r := [sV (.int .i64 (256 : Int)), sL a0.label, sL t12, sV (.int .i64 a0.at_)]) rfl rfl (aggV_cells _) (oI (oL (oL (oI oN)))) rfl rfl size45 (by kernel_rfl) (by kernel_rfl) (by kernel_rfl) ⟨⟨[], (.lose .refl), (l2 e19 e23)⟩, ?_⟩)
 refine dn ?_
 refine GX.then hK6 ?_
 refine G.ret ?_
 obtain rfl := Option.some.inj h
 exact hret _ _ _ _ 2 (l2 e19 e23) (.cons (.row (k := 0) rfl rfl row45 (by kernel_rfl)) .nil) rfl rfl

/- chirograph/chirographref16.Inner -/
def r16_Inner  (a0 : Item) (a1 : Item) : Option Item :=
 ((r01_Common a0.bits a1.bits).bind fun t9 => ((r01_Cut a0.bits t9).bind fun t15 => ((r15_InnerBytes a0 a1).bind fun t20 => ((r03_Sum t20).bind fun t25 => some (⟨t9, t15, t25, (max a0.at_ a1.at_)⟩ : Item)))))

theorem r16_Inner_ok {S : Hp} (a0 : Item) (a1 : Item) {r : Item} (h : r16_Inner a0 a1 = some r) : Fn Tryz.prog 60 [aggV [sV (.int .i64 a0.len), sL a0.bits, sL a0.sum, sV (.int .i64 a0.at_)], aggV [sV (.int .i64 a1.len), sL a1.bits, sL a1.sum, sV (.int .i64 a1.at_)]] S (fun v S' => v = aggV [sV (.int .i64 r.len), sL r.bits, sL r.sum, sV (.int .i64 r.at_)]) := by
 unfold r16_Inner at h
 refine fo [.cell 4 45] 26 Tryz.func60 Tryz.ntmps60 (fun o F Q hQ hN hret => ?_)
 refine sr (fun _ hK1 => ?_)
 refine st (OS.boxA (by decide) rfl (fun ad2 => ?_))
 refine st (OS.boxA (by decide) rfl (fun ad4 => ?_))
 refine st (OS.alloc _ (by decide) zero45 (fun ad6 => ?_))
 refine nt hK1 ?_
 refine sr (fun _ hK8 => ?_)
 refine vl (Y.fieldAddr 1 rfl fld45_1 rfl) ?_
 refine lb 2 1 1 [sL a0.bits] row23 ?_
 refine vl (Y.fieldAddr 1 rfl fld45_1 rfl) ?_
 refine lb 1 1 1 [sL a1.bits] row23 ?_
 obtain ⟨t9, wt9, h⟩ := bind_some' h
 refine st (cl fb135 (r01_Common_ok a0.bits a1.bits wt9) (fun v10 S11 e12 z13 => ?_))
 obtain rfl := z13
 refine an ?_
 refine nt hK8 ?_
 refine G.seq (fun _ hK14 => ?_)
 obtain ⟨t15, wt15, h⟩ := bind_some' h
 obtain ⟨t20, wt20, h⟩ := bind_some' h
 obtain ⟨t25, wt25, h⟩ := bind_some' h
 refine G.drawS 15 _ ((fun _ => True) :: Blk ad4 [sV (.int .i64 a1.len), sL a1.bits, sL a1.sum, sV (.int .i64 a1.at_)] :: Blk ad2 [sV (.int .i64 a0.len), sL a0.bits, sL a0.sum, sV (.int .i64 a0.at_)] :: F) mixed .refl (by kernel_rfl) ?_
 refine tx 0 rfl (.lose .refl) hQ (fun _ _ _ => Y.move rfl) ?_
 refine tx 1 rfl (.lose .refl) hQ (fun _ _ _ => Y.fieldAddr 1 rfl fld45_1 rfl) ?_
 refine tx 2 rfl (.lose .refl) hQ (fun S₀ X₀ e₀ => Y.loadB (X₀.length + 2)  1 1 [sL a0.bits] rfl (Lk rfl) rfl rfl row23 (by kernel_rfl)) ?_
 refine tx 3 rfl (.lose .refl) hQ (fun _ _ _ => Y.move rfl) ?_
 refine tx 5 rfl (.lose .refl) hQ (fun S₀ X₀ e₀ => Y.loadB (X₀.length + 2)  0 4 [sV (.int .i64 a0.len), sL a0.bits, sL a0.sum, sV (.int .i64 a0.at_)] rfl (Lk rfl) rfl rfl row45 (by kernel_rfl)) ?_
 refine tx 6 rfl (.lose .refl) hQ (fun S₀ X₀ e₀ => Y.loadB (X₀.length + 1)  0 4 [sV (.int .i64 a1.len), sL a1.bits, sL a1.sum, sV (.int .i64 a1.at_)] rfl (Lk rfl) rfl rfl row45 (by kernel_rfl)) ?_
 refine tx 9 rfl (.lose .refl) hQ (fun _ _ _ => Y.fieldAddr 65 rfl fld45_3 rfl) ?_
 refine tx 10 rfl (.lose .refl) hQ (fun S₀ X₀ e₀ => Y.loadV (X₀.length + 2)  3 _ rfl (Lk rfl) rfl rfl one3) ?_
 refine tx 11 rfl (.lose .refl) hQ (fun _ _ _ => Y.fieldAddr 65 rfl fld45_3 rfl) ?_
 refine tx 12 rfl (.lose .refl) hQ (fun S₀ X₀ e₀ => Y.loadV (X₀.length + 1)  3 _ rfl (Lk rfl) rfl rfl one3) ?_
 refine tx 13 rfl (.lose .refl) hQ (fun _ _ _ => Y.maxI rfl rfl) ?_
 refine g1 4 ?_
 refine n1 rfl (cl fb137 (r01_Cut_ok a0.bits t9 wt15) (fun v30 S31 e32 z33 => ⟨⟨[], .refl, e32⟩, ?_⟩))
 obtain rfl := z33
 refine g1 7 ?_
 refine n1 rfl (cl fb59 (r15_InnerBytes_ok a0 a1 wt20) (fun v34 S35 e36 z37 => ⟨⟨[], .refl, (l2 e32 e36)⟩, ?_⟩))
 obtain rfl := z37
 refine g1 8 ?_
 refine n1 rfl (cl fb39 (r03_Sum_ok t20 wt25) (fun v38 S39 e40 z41 => ⟨⟨[], .refl, (l2 e32 (l2 e36 e40))⟩, ?_⟩))
 obtain rfl := z41
 refine tx 14 rfl (.lose .refl) hQ (fun _ _ _ => Y.buildE _ [sV (.int .i64 t9), sL t15, sL t25, sV (.int .i64 (max a0.at_ a1.at_))] strt45 zero45 rfl (.cons 0 1 [sV (.int .i64 t9)] rfl rfl rfl rfl rfl (.cons 1 1 [sL t15] rfl (aggV_cells _) rfl rfl rfl (.cons 2 1 [sL t25] rfl (aggV_cells _) rfl rfl rfl (.cons 3 1 [sV (.int .i64 (max a0.at_ a1.at_))] rfl rfl rfl rfl rfl .nil))))) ?_
 refine g1 15 ?_
 refine n2 rfl (OS.store 0 0 4 [sV (.int .i64 t9), sL t15, sL t25, sV (.int .i64 (max a0.at_ a1.at_))] (r := [sV (.int .i64 t9), sL t15, sL t25, sV (.int .i64 (max a0.at_ a1.at_))]) rfl rfl (aggV_cells _) (oI (oL (oL (oI oN)))) rfl rfl size45 (by kernel_rfl) (by kernel_rfl) (by kernel_rfl) ⟨⟨[], (.lose .refl), (l2 e32 (l2 e36 e40))⟩, ?_⟩)
 refine dn ?_
 refine GX.then hK14 ?_
 refine G.ret ?_
 obtain rfl := Option.some.inj h
 exact hret _ _ _ _ 3 (l2 e12 (l2 e32 (l2 e36 e40))) (.cons (.row (k := 0) rfl rfl row45 (by kernel_rfl)) .nil) rfl rfl

/- chirograph/chirographref16.over -/
def r16_over  (a0 : Item) (a1 : Item) : Option Bool :=
 ((if (decide (a0.len ≤ a1.len)) = true then ((r01_Common a0.bits a1.bits).bind fun t10 => some (decide (a0.len ≤ t10))) else some false).bind fun b8 => some b8)

theorem r16_over_ok {S : Hp} (a0 : Item) (a1 : Item) {r : Bool} (h : r16_over a0 a1 = some r) : Fn Tryz.prog 129 [aggV [sV (.int .i64 a0.len), sL a0.bits, sL a0.sum, sV (.int .i64 a0.at_)], aggV [sV (.int .i64 a1.len), sL a1.bits, sL a1.sum, sV (.int .i64 a1.at_)]] S (fun v S' => v = .bool r) := by
 unfold r16_over at h
 refine fo [.tmp 4] 20 Tryz.func129 Tryz.ntmps129 (fun o F Q hQ hN hret => ?_)
 refine sr (fun _ hK1 => ?_)
 refine st (OS.boxA (by decide) rfl (fun ad2 => ?_))
 refine st (OS.boxA (by decide) rfl (fun ad4 => ?_))
 refine an ?_
 refine nt hK1 ?_
 refine G.seq (fun _ hK6 => ?_)
 obtain ⟨b8, wb8, h⟩ := bind_some' h
 refine G.cut (fun E₀ S₀ L₀ => S.le S₀ ∧ E₀ = [(4, .bool b8)] ∧ Blk ad4 [sV (.int .i64 a1.len), sL a1.bits, sL a1.sum, sV (.int .i64 a1.at_)] :: Blk ad2 [sV (.int .i64 a0.len), sL a0.bits, sL a0.sum, sV (.int .i64 a0.at_)] :: F = L₀) (fun K7 hK7 => ?_) ?_
 ·replace h := wb8
  rcases Bool.eq_false_or_eq_true (decide (a0.len ≤ a1.len)) with c9 | c9
  ·replace h := ite_t c9 h
   obtain ⟨t10, wt10, h⟩ := bind_some' h
   obtain rfl := Option.some.inj h
   refine G.drawN 16 mixed (by kernel_rfl) ?_
   refine tn 0 rfl hQ (fun _ _ _ => Y.fieldAddr 0 rfl fld45_0 rfl) ?_
   refine tn 1 rfl hQ (fun S₀ X₀ e₀ => Y.loadV (X₀.length + 1)  0 _ rfl (Lk rfl) rfl rfl one3) ?_
   refine tn 2 rfl hQ (fun _ _ _ => Y.fieldAddr 0 rfl fld45_0 rfl) ?_
   refine tn 3 rfl hQ (fun S₀ X₀ e₀ => Y.loadV (X₀.length + 0)  0 _ rfl (Lk rfl) rfl rfl one3) ?_
   refine tn 4 rfl hQ (fun _ _ _ => Y.leI rfl rfl) ?_
   refine tn 5 rfl hQ (fun _ _ _ => Y.move rfl) ?_
   refine tw 6 rfl .refl hQ (gi 10 c9) (fun _ _ _ => Y.fieldAddr 1 rfl fld45_1 rfl) ?_
   refine tw 7 rfl .refl hQ (gi 10 c9) (fun S₀ X₀ e₀ => Y.loadB (X₀.length + 1)  1 1 [sL a0.bits] rfl (Lk rfl) rfl rfl row23 (by kernel_rfl)) ?_
   refine tw 8 rfl .refl hQ (gi 10 c9) (fun _ _ _ => Y.fieldAddr 1 rfl fld45_1 rfl) ?_
   refine tw 9 rfl .refl hQ (gi 10 c9) (fun S₀ X₀ e₀ => Y.loadB (X₀.length + 0)  1 1 [sL a1.bits] rfl (Lk rfl) rfl rfl row23 (by kernel_rfl)) ?_
   refine tw 11 rfl .refl hQ (gi 10 c9) (fun _ _ _ => Y.fieldAddr 0 rfl fld45_0 rfl) ?_
   refine tw 12 rfl .refl hQ (gi 10 c9) (fun S₀ X₀ e₀ => Y.loadV (X₀.length + 1)  0 _ rfl (Lk rfl) rfl rfl one3) ?_
   refine g1 10 ?_
   refine GD1.on rfl (gi 10 c9) (by kernel_rfl) (cl fb135 (r01_Common_ok a0.bits a1.bits wt10) (fun v15 S16 e17 z18 => ⟨⟨[], .refl, e17⟩, ?_⟩))
   obtain rfl := z18
   refine tw 13 rfl .refl hQ (gi 10 c9) (fun _ _ _ => Y.geI rfl rfl) ?_
   refine tn 14 rfl hQ (fun _ _ _ => Y.pickT _ c9 rfl rfl) ?_
   refine tn 15 rfl hQ (fun _ _ _ => Y.assign rfl) ?_
   refine dn ?_
   refine GX.keep [4] rfl ?_
   exact hK7 _ _ _ ⟨e17, rfl, rfl⟩
  replace h := ite_f c9 h
  obtain rfl := Option.some.inj h
  refine G.drawN 16 mixed (by kernel_rfl) ?_
  refine tn 0 rfl hQ (fun _ _ _ => Y.fieldAddr 0 rfl fld45_0 rfl) ?_
  refine tn 1 rfl hQ (fun S₀ X₀ e₀ => Y.loadV (X₀.length + 1)  0 _ rfl (Lk rfl) rfl rfl one3) ?_
  refine tn 2 rfl hQ (fun _ _ _ => Y.fieldAddr 0 rfl fld45_0 rfl) ?_
  refine tn 3 rfl hQ (fun S₀ X₀ e₀ => Y.loadV (X₀.length + 0)  0 _ rfl (Lk rfl) rfl rfl one3) ?_
  refine tn 4 rfl hQ (fun _ _ _ => Y.leI rfl rfl) ?_
  refine tn 5 rfl hQ (fun _ _ _ => Y.move rfl) ?_
  refine tf 6 rfl .refl hQ (gn 10 c9) ?_
  refine tf 7 rfl .refl hQ (gn 10 c9) ?_
  refine tf 8 rfl .refl hQ (gn 10 c9) ?_
  refine tf 9 rfl .refl hQ (gn 10 c9) ?_
  refine tf 10 rfl .refl hQ (gn 10 c9) ?_
  refine tf 11 rfl .refl hQ (gn 10 c9) ?_
  refine tf 12 rfl .refl hQ (gn 10 c9) ?_
  refine tf 13 rfl .refl hQ (gn 10 c9) ?_
  refine tn 14 rfl hQ (fun _ _ _ => Y.pickF _ c9 rfl rfl) ?_
  refine tn 15 rfl hQ (fun _ _ _ => Y.assign rfl) ?_
  refine dn ?_
  refine GX.keep [4] rfl ?_
  exact hK7 _ _ _ ⟨l0, rfl, rfl⟩
 rintro _ S19 _ ⟨e20, rfl, rfl⟩
 refine GX.then hK6 ?_
 refine G.ret ?_
 obtain rfl := Option.some.inj h
 exact hret _ _ _ _ 2 e20 (.cons (.tmp rfl) .nil) rfl rfl

/- chirograph/chirographref16.Check -/
def r16_Check_s1 (a0 : (List Item)) : (Int) → Option ((Int) ⊕ (Int ⊕ (Int)))
 | x10 => (if (decide (x10 < (lenI a0))) = true then ((req ((0 : Int) ≤ x10 ∧ x10 < lenI a0)).bind fun _ => ((r15_Good (getI a0 x10)).bind fun t28 => (if (!t28) = true then some (.inr (.inl (1 : Int))) else ((if (decide ((0 : Int) < x10)) = true then ((req ((0 : Int) ≤ (wrap64 (x10 - (1 : Int))) ∧ (wrap64 (x10 - (1 : Int))) < lenI a0)).bind fun _ => ((r16_over (getI a0 (wrap64 (x10 - (1 : Int)))) (getI a0 x10)).bind fun t44 => (if t44 = true then some true else ((req ((0 : Int) ≤ (wrap64 (x10 - (1 : Int))) ∧ (wrap64 (x10 - (1 : Int))) < lenI a0)).bind fun _ => ((r16_over (getI a0 x10) (getI a0 (wrap64 (x10 - (1 : Int))))).bind fun t65 => (if t65 = true then some true else ((req ((0 : Int) ≤ (wrap64 (x10 - (1 : Int))) ∧ (wrap64 (x10 - (1 : Int))) < lenI a0)).bind fun _ => ((r01_Order ((getI a0 (wrap64 (x10 - (1 : Int)))).bits) ((getI a0 x10).bits)).bind fun t94 => some (t94 != (-1 : Int)))))))))) else some false).bind fun b37 => (if b37 = true then some (.inr (.inl (3 : Int))) else some (.inl (wrap64 (x10 + (1 : Int))))))))) else some (.inr (.inr x10)))

def r16_Check  (a0 : (List Item)) : Option Int :=
 (if (decide ((2000 : Int) < (lenI a0))) = true then some (2 : Int) else ((iter (r16_Check_s1 a0) (0 : Int)).bind fun b12 => (match b12 with | .inl r₀ => some r₀ | .inr x10 => some (0 : Int))))

theorem r16_Check_ok {S : Hp} (a0 : (List Item)) {va0 : Value} (qa0 : Sls S va0 a0) {r : Int} (h : r16_Check a0 = some r) : Fn Tryz.prog 49 [va0] S (fun v S' => v = .int .i64 r) := by
 unfold r16_Check at h
 refine fo [.tmp 2] 51 Tryz.func49 Tryz.ntmps49 (fun o F Q hQ hN hret => ?_)
 refine sr (fun _ hK1 => ?_)
 refine an ?_
 refine nt hK1 ?_
 refine G.seq (fun _ hK2 => ?_)
 refine sr (fun _ hK3 => ?_)
 refine mv ?_
 refine vl (Y.lenS rfl qa0 slc46) ?_
 refine vl (Y.gtI rfl rfl) ?_
 refine nt hK3 ?_
 refine G.cond _ rfl (fun c4 => ?_) (fun c4 => ?_)
 ·replace h := ite_t c4 h
  refine sr (fun _ hK5 => ?_)
  refine an ?_
  refine nt hK5 ?_
  refine G.ret ?_
  obtain rfl := Option.some.inj h
  exact hret _ _ _ _ 0 l0 (.cons (.tmp rfl) .nil) rfl rfl
 replace h := ite_f c4 h
 refine sk hK2 ?_
 refine G.seq (fun _ hK6 => ?_)
 refine sr (fun _ hK7 => ?_)
 refine mv ?_
 refine vl (Y.lenS rfl qa0 slc46) ?_
 refine mv ?_
 refine nt hK7 ?_
 refine G.block ?_
 obtain ⟨b12, wb12, ho13⟩ := bind_some' h
 refine G.keep [10, 9, 8, 0] rfl ?_
 refine G.loopK (r16_Check_s1 a0) (fun s₀ E' S' L' => match s₀ with | x10 => S.le S' ∧ E' = [(10, .int .i64 x10), (9, .int .i64 (lenI a0)), (8, va0), (0, va0)] ∧ F = L') b12 0 (fun E₀ S₀ L₀ => ∃ (x10 : Int), S.le S₀ ∧ b12 = .inr x10 ∧ E₀ = [] ∧ F = L₀) wb12 ?_ ?_ ?_
 ·rintro _ S129 _ ⟨x10, e130, rfl, rfl, rfl⟩
  have h := ho13; clear ho13
  try dsimp only at h
  refine GX.exit_block ?_
  refine GX.then hK6 ?_
  refine sr (fun _ hK131 => ?_)
  refine an ?_
  refine nt hK131 ?_
  refine G.ret ?_
  obtain rfl := Option.some.inj h
  exact hret _ _ _ _ 0 e130 (.cons (.tmp rfl) .nil) rfl rfl
 ·exact ⟨Hp.le_refl _, rfl, rfl⟩
 rintro x10 _ S8 _ ⟨e9, rfl, rfl⟩ out1 h hf1 K1 hK1 hx11
 rw [r16_Check_s1] at h
 replace qa0 := qa0.up e9
 refine sr (fun _ hK14 => ?_)
 refine vl (Y.ltI rfl rfl) ?_
 refine nt hK14 ?_
 refine G.seq (fun _ hK15 => ?_)
 refine G.cond _ rfl (fun c16 => ?_) (fun c16 => ?_)
 ·replace h := ite_t c16 h
  refine sk hK15 ?_
  refine G.seq (fun _ hK17 => ?_)
  refine G.block ?_
  refine sr (fun _ hK18 => ?_)
  refine mv ?_
  obtain ⟨g19, h⟩ := req_bind h
  obtain ⟨ad20, p21, z22, q23⟩ := Sls.at qa0 g19
  refine vl (Y.idxS rfl z22 rfl slc46 g19) ?_
  refine vl (Y.loadS [sV (.int .i64 ((getI a0 x10).len)), sL ((getI a0 x10).bits), sL ((getI a0 x10).sum), sV (.int .i64 ((getI a0 x10).at_))] rfl (At.part q23 0 4 _ rfl rfl) row45 (by kernel_rfl)) ?_
  refine st (OS.alloc _ (by decide) zero45 (fun ad24 => ?_))
  refine an ?_
  refine sf 0 4 [sV (.int .i64 ((getI a0 x10).len)), sL ((getI a0 x10).bits), sL ((getI a0 x10).sum), sV (.int .i64 ((getI a0 x10).at_))] (aggV_cells _) (oI (oL (oL (oI oN)))) size45 ?_
  refine nt hK18 ?_
  refine G.seq (fun _ hK26 => ?_)
  refine sr (fun _ hK27 => ?_)
  refine lb 0 0 4 [sV (.int .i64 ((getI a0 x10).len)), sL ((getI a0 x10).bits), sL ((getI a0 x10).sum), sV (.int .i64 ((getI a0 x10).at_))] row45 ?_
  obtain ⟨t28, wt28, h⟩ := bind_some' h
  refine st (cl fb100 (r15_Good_ok (getI a0 x10) wt28) (fun v29 S30 e31 z32 => ?_))
  replace qa0 := qa0.up e31
  replace q23 := q23.up e31
  obtain rfl := z32
  refine vl (Y.not rfl) ?_
  refine nt hK27 ?_
  refine G.cond _ rfl (fun c33 => ?_) (fun c33 => ?_)
  ·replace h := ite_t c33 h
   refine sr (fun _ hK34 => ?_)
   refine an ?_
   refine nt hK34 ?_
   refine G.ret ?_
   obtain rfl := Option.some.inj h
   obtain rfl := hf1 _ rfl
   have h := ho13
   try dsimp only at h
   obtain rfl := Option.some.inj h
   exact hret _ _ _ _ 1 (l2 e9 e31) (.cons (.tmp rfl) .nil) rfl rfl
  replace h := ite_f c33 h
  refine sk hK26 ?_
  refine G.seq (fun _ hK35 => ?_)
  obtain ⟨b37, wb37, h⟩ := bind_some' h
  refine G.cut (fun E₀ S₀ L₀ => S30.le S₀ ∧ E₀ = [(49, .bool b37), (10, .int .i64 x10), (9, .int .i64 (lenI a0)), (8, va0), (0, va0)] ∧ Blk ad24 [sV (.int .i64 ((getI a0 x10).len)), sL ((getI a0 x10).bits), sL ((getI a0 x10).sum), sV (.int .i64 ((getI a0 x10).at_))] :: F = L₀) (fun K36 hK36 => ?_) ?_
  ·replace h := wb37
   rcases Bool.eq_false_or_eq_true (decide ((0 : Int) < x10)) with c38 | c38
   ·replace h := ite_t c38 h
    obtain ⟨g39, h⟩ := req_bind h
    obtain ⟨ad40, p41, z42, q43⟩ := Sls.at qa0 g39
    obtain ⟨t44, wt44, h⟩ := bind_some' h
    rcases Bool.eq_false_or_eq_true t44 with c52 | c52
    ·replace h := ite_t c52 h
     obtain rfl := Option.some.inj h
     refine G.drawN 32 mixed (by kernel_rfl) ?_
     refine tn 0 rfl hQ (fun _ _ _ => Y.move rfl) ?_
     refine tn 1 rfl hQ (fun _ _ _ => Y.gtI rfl rfl) ?_
     refine tn 2 rfl hQ (fun _ _ _ => Y.move rfl) ?_
     refine tw 3 rfl .refl hQ (gi 20 c38) (fun _ _ _ => Y.move rfl) ?_
     refine tw 4 rfl .refl hQ (gi 20 c38) (fun _ _ _ => Y.move rfl) ?_
     refine tw 5 rfl .refl hQ (gi 20 c38) (fun _ _ _ => Y.subI rfl rfl) ?_
     refine tw 6 rfl .refl hQ (gi 20 c38) (fun _ _ _ => Y.idxS rfl z42 rfl slc46 g39) ?_
     refine tw 7 rfl .refl hQ (gi 20 c38) (fun S₀ X₀ e₀ => Y.loadS [sV (.int .i64 ((getI a0 (wrap64 (x10 - (1 : Int)))).len)), sL ((getI a0 (wrap64 (x10 - (1 : Int)))).bits), sL ((getI a0 (wrap64 (x10 - (1 : Int)))).sum), sV (.int .i64 ((getI a0 (wrap64 (x10 - (1 : Int)))).at_))] rfl (At.part (q43.up e₀) 0 4 _ rfl rfl) row45 (by kernel_rfl)) ?_
     refine tw 8 rfl .refl hQ (gi 20 c38) (fun S₀ X₀ e₀ => Y.loadB (X₀.length + 0)  0 4 [sV (.int .i64 ((getI a0 x10).len)), sL ((getI a0 x10).bits), sL ((getI a0 x10).sum), sV (.int .i64 ((getI a0 x10).at_))] rfl (Lk rfl) rfl rfl row45 (by kernel_rfl)) ?_
     refine g1 9 ?_
     refine GD1.on rfl (gi 20 c38) (by kernel_rfl) (cl fb129 (r16_over_ok (getI a0 (wrap64 (x10 - (1 : Int)))) (getI a0 x10) wt44) (fun v53 S54 e55 z56 => ⟨⟨[], .refl, e55⟩, ?_⟩))
     have q57 := qa0.up e55
     have q58 := q23.up e55
     have q59 := q43.up e55
     obtain rfl := z56
     refine tw 10 rfl .refl hQ (gi 20 c38) (fun _ _ _ => Y.move rfl) ?_
     refine tf 11 rfl .refl hQ (gn 28 c52) ?_
     refine tf 12 rfl .refl hQ (gn 28 c52) ?_
     refine tf 13 rfl .refl hQ (gn 28 c52) ?_
     refine tf 14 rfl .refl hQ (gn 28 c52) ?_
     refine tf 15 rfl .refl hQ (gn 28 c52) ?_
     refine tf 16 rfl .refl hQ (gn 28 c52) ?_
     refine tf 17 rfl .refl hQ (gn 28 c52) ?_
     refine tw 18 rfl .refl hQ (gi 20 c38) (fun _ _ _ => Y.pickT _ c52 rfl rfl) ?_
     refine tw 19 rfl .refl hQ (gi 20 c38) (fun _ _ _ => Y.move rfl) ?_
     refine tf 20 rfl .refl hQ (gn 37 rfl) ?_
     refine tf 21 rfl .refl hQ (gn 37 rfl) ?_
     refine tf 22 rfl .refl hQ (gn 37 rfl) ?_
     refine tf 23 rfl .refl hQ (gn 37 rfl) ?_
     refine tf 24 rfl .refl hQ (gn 37 rfl) ?_
     refine tf 25 rfl .refl hQ (gn 37 rfl) ?_
     refine tf 26 rfl .refl hQ (gn 37 rfl) ?_
     refine tf 27 rfl .refl hQ (gn 37 rfl) ?_
     refine tf 28 rfl .refl hQ (gn 37 rfl) ?_
     refine tf 29 rfl .refl hQ (gn 37 rfl) ?_
     refine tw 30 rfl .refl hQ (gi 20 c38) (fun _ _ _ => Y.pickT _ rfl rfl rfl) ?_
     refine tn 31 rfl hQ (fun _ _ _ => Y.pickT _ c38 rfl rfl) ?_
     refine dn ?_
     refine GX.keep [49, 10, 9, 8, 0] rfl ?_
     exact hK36 _ _ _ ⟨e55, rfl, rfl⟩
    replace h := ite_f c52 h
    obtain ⟨g60, h⟩ := req_bind h
    obtain ⟨ad61, p62, z63, q64⟩ := Sls.at qa0 g60
    obtain ⟨t65, wt65, h⟩ := bind_some' h
    rcases Bool.eq_false_or_eq_true t65 with c74 | c74
    ·replace h := ite_t c74 h
     obtain rfl := Option.some.inj h
     refine G.drawN 32 mixed (by kernel_rfl) ?_
     refine tn 0 rfl hQ (fun _ _ _ => Y.move rfl) ?_
     refine tn 1 rfl hQ (fun _ _ _ => Y.gtI rfl rfl) ?_
     refine tn 2 rfl hQ (fun _ _ _ => Y.move rfl) ?_
     refine tw 3 rfl .refl hQ (gi 20 c38) (fun _ _ _ => Y.move rfl) ?_
     refine tw 4 rfl .refl hQ (gi 20 c38) (fun _ _ _ => Y.move rfl) ?_
     refine tw 5 rfl .refl hQ (gi 20 c38) (fun _ _ _ => Y.subI rfl rfl) ?_
     refine tw 6 rfl .refl hQ (gi 20 c38) (fun _ _ _ => Y.idxS rfl z42 rfl slc46 g39) ?_
     refine tw 7 rfl .refl hQ (gi 20 c38) (fun S₀ X₀ e₀ => Y.loadS [sV (.int .i64 ((getI a0 (wrap64 (x10 - (1 : Int)))).len)), sL ((getI a0 (wrap64 (x10 - (1 : Int)))).bits), sL ((getI a0 (wrap64 (x10 - (1 : Int)))).sum), sV (.int .i64 ((getI a0 (wrap64 (x10 - (1 : Int)))).at_))] rfl (At.part (q43.up e₀) 0 4 _ rfl rfl) row45 (by kernel_rfl)) ?_
     refine tw 8 rfl .refl hQ (gi 20 c38) (fun S₀ X₀ e₀ => Y.loadB (X₀.length + 0)  0 4 [sV (.int .i64 ((getI a0 x10).len)), sL ((getI a0 x10).bits), sL ((getI a0 x10).sum), sV (.int .i64 ((getI a0 x10).at_))] rfl (Lk rfl) rfl rfl row45 (by kernel_rfl)) ?_
     refine g1 9 ?_
     refine GD1.on rfl (gi 20 c38) (by kernel_rfl) (cl fb129 (r16_over_ok (getI a0 (wrap64 (x10 - (1 : Int)))) (getI a0 x10) wt44) (fun v75 S76 e77 z78 => ⟨⟨[], .refl, e77⟩, ?_⟩))
     have q79 := qa0.up e77
     have q80 := q23.up e77
     have q81 := q43.up e77
     obtain rfl := z78
     refine tw 10 rfl .refl hQ (gi 20 c38) (fun _ _ _ => Y.move rfl) ?_
     refine tw 11 rfl .refl hQ (gi 28 c52) (fun S₀ X₀ e₀ => Y.loadB (X₀.length + 0)  0 4 [sV (.int .i64 ((getI a0 x10).len)), sL ((getI a0 x10).bits), sL ((getI a0 x10).sum), sV (.int .i64 ((getI a0 x10).at_))] rfl (Lk rfl) rfl rfl row45 (by kernel_rfl)) ?_
     refine tw 12 rfl .refl hQ (gi 28 c52) (fun _ _ _ => Y.move rfl) ?_
     refine tw 13 rfl .refl hQ (gi 28 c52) (fun _ _ _ => Y.move rfl) ?_
     refine tw 14 rfl .refl hQ (gi 28 c52) (fun _ _ _ => Y.subI rfl rfl) ?_
     refine tw 15 rfl .refl hQ (gi 28 c52) (fun _ _ _ => Y.idxS rfl z63 rfl slc46 g60) ?_
     refine tw 16 rfl .refl hQ (gi 28 c52) (fun S₀ X₀ e₀ => Y.loadS [sV (.int .i64 ((getI a0 (wrap64 (x10 - (1 : Int)))).len)), sL ((getI a0 (wrap64 (x10 - (1 : Int)))).bits), sL ((getI a0 (wrap64 (x10 - (1 : Int)))).sum), sV (.int .i64 ((getI a0 (wrap64 (x10 - (1 : Int)))).at_))] rfl (At.part (q64.up e₀) 0 4 _ rfl rfl) row45 (by kernel_rfl)) ?_
     refine g1 17 ?_
     refine GD1.on rfl (gi 28 c52) (by kernel_rfl) (cl fb129 (r16_over_ok (getI a0 x10) (getI a0 (wrap64 (x10 - (1 : Int)))) wt65) (fun v82 S83 e84 z85 => ⟨⟨[], .refl, (l2 e77 e84)⟩, ?_⟩))
     have q86 := q79.up e84
     have q87 := q80.up e84
     have q88 := q81.up e84
     obtain rfl := z85
     refine tw 18 rfl .refl hQ (gi 20 c38) (fun _ _ _ => Y.pickF _ c52 rfl rfl) ?_
     refine tw 19 rfl .refl hQ (gi 20 c38) (fun _ _ _ => Y.move rfl) ?_
     refine tf 20 rfl .refl hQ (gn 37 c74) ?_
     refine tf 21 rfl .refl hQ (gn 37 c74) ?_
     refine tf 22 rfl .refl hQ (gn 37 c74) ?_
     refine tf 23 rfl .refl hQ (gn 37 c74) ?_
     refine tf 24 rfl .refl hQ (gn 37 c74) ?_
     refine tf 25 rfl .refl hQ (gn 37 c74) ?_
     refine tf 26 rfl .refl hQ (gn 37 c74) ?_
     refine tf 27 rfl .refl hQ (gn 37 c74) ?_
     refine tf 28 rfl .refl hQ (gn 37 c74) ?_
     refine tf 29 rfl .refl hQ (gn 37 c74) ?_
     refine tw 30 rfl .refl hQ (gi 20 c38) (fun _ _ _ => Y.pickT _ c74 rfl rfl) ?_
     refine tn 31 rfl hQ (fun _ _ _ => Y.pickT _ c38 rfl rfl) ?_
     refine dn ?_
     refine GX.keep [49, 10, 9, 8, 0] rfl ?_
     exact hK36 _ _ _ ⟨(l2 e77 e84), rfl, rfl⟩
    replace h := ite_f c74 h
    obtain ⟨g89, h⟩ := req_bind h
    obtain ⟨ad90, p91, z92, q93⟩ := Sls.at qa0 g89
    obtain ⟨t94, wt94, h⟩ := bind_some' h
    obtain rfl := Option.some.inj h
    refine G.drawN 32 mixed (by kernel_rfl) ?_
    refine tn 0 rfl hQ (fun _ _ _ => Y.move rfl) ?_
    refine tn 1 rfl hQ (fun _ _ _ => Y.gtI rfl rfl) ?_
    refine tn 2 rfl hQ (fun _ _ _ => Y.move rfl) ?_
    refine tw 3 rfl .refl hQ (gi 20 c38) (fun _ _ _ => Y.move rfl) ?_
    refine tw 4 rfl .refl hQ (gi 20 c38) (fun _ _ _ => Y.move rfl) ?_
    refine tw 5 rfl .refl hQ (gi 20 c38) (fun _ _ _ => Y.subI rfl rfl) ?_
    refine tw 6 rfl .refl hQ (gi 20 c38) (fun _ _ _ => Y.idxS rfl z42 rfl slc46 g39) ?_
    refine tw 7 rfl .refl hQ (gi 20 c38) (fun S₀ X₀ e₀ => Y.loadS [sV (.int .i64 ((getI a0 (wrap64 (x10 - (1 : Int)))).len)), sL ((getI a0 (wrap64 (x10 - (1 : Int)))).bits), sL ((getI a0 (wrap64 (x10 - (1 : Int)))).sum), sV (.int .i64 ((getI a0 (wrap64 (x10 - (1 : Int)))).at_))] rfl (At.part (q43.up e₀) 0 4 _ rfl rfl) row45 (by kernel_rfl)) ?_
    refine tw 8 rfl .refl hQ (gi 20 c38) (fun S₀ X₀ e₀ => Y.loadB (X₀.length + 0)  0 4 [sV (.int .i64 ((getI a0 x10).len)), sL ((getI a0 x10).bits), sL ((getI a0 x10).sum), sV (.int .i64 ((getI a0 x10).at_))] rfl (Lk rfl) rfl rfl row45 (by kernel_rfl)) ?_
    refine g1 9 ?_
    refine GD1.on rfl (gi 20 c38) (by kernel_rfl) (cl fb129 (r16_over_ok (getI a0 (wrap64 (x10 - (1 : Int)))) (getI a0 x10) wt44) (fun v104 S105 e106 z107 => ⟨⟨[], .refl, e106⟩, ?_⟩))
    have q108 := qa0.up e106
    have q109 := q23.up e106
    have q110 := q43.up e106
    obtain rfl := z107
    refine tw 10 rfl .refl hQ (gi 20 c38) (fun _ _ _ => Y.move rfl) ?_
    refine tw 11 rfl .refl hQ (gi 28 c52) (fun S₀ X₀ e₀ => Y.loadB (X₀.length + 0)  0 4 [sV (.int .i64 ((getI a0 x10).len)), sL ((getI a0 x10).bits), sL ((getI a0 x10).sum), sV (.int .i64 ((getI a0 x10).at_))] rfl (Lk rfl) rfl rfl row45 (by kernel_rfl)) ?_
    refine tw 12 rfl .refl hQ (gi 28 c52) (fun _ _ _ => Y.move rfl) ?_
    refine tw 13 rfl .refl hQ (gi 28 c52) (fun _ _ _ => Y.move rfl) ?_
    refine tw 14 rfl .refl hQ (gi 28 c52) (fun _ _ _ => Y.subI rfl rfl) ?_
    refine tw 15 rfl .refl hQ (gi 28 c52) (fun _ _ _ => Y.idxS rfl z63 rfl slc46 g60) ?_
    refine tw 16 rfl .refl hQ (gi 28 c52) (fun S₀ X₀ e₀ => Y.loadS [sV (.int .i64 ((getI a0 (wrap64 (x10 - (1 : Int)))).len)), sL ((getI a0 (wrap64 (x10 - (1 : Int)))).bits), sL ((getI a0 (wrap64 (x10 - (1 : Int)))).sum), sV (.int .i64 ((getI a0 (wrap64 (x10 - (1 : Int)))).at_))] rfl (At.part (q64.up e₀) 0 4 _ rfl rfl) row45 (by kernel_rfl)) ?_
    refine g1 17 ?_
    refine GD1.on rfl (gi 28 c52) (by kernel_rfl) (cl fb129 (r16_over_ok (getI a0 x10) (getI a0 (wrap64 (x10 - (1 : Int)))) wt65) (fun v111 S112 e113 z114 => ⟨⟨[], .refl, (l2 e106 e113)⟩, ?_⟩))
    have q115 := q108.up e113
    have q116 := q109.up e113
    have q117 := q110.up e113
    obtain rfl := z114
    refine tw 18 rfl .refl hQ (gi 20 c38) (fun _ _ _ => Y.pickF _ c52 rfl rfl) ?_
    refine tw 19 rfl .refl hQ (gi 20 c38) (fun _ _ _ => Y.move rfl) ?_
    refine tw 20 rfl .refl hQ (gi 37 c74) (fun _ _ _ => Y.move rfl) ?_
    refine tw 21 rfl .refl hQ (gi 37 c74) (fun _ _ _ => Y.move rfl) ?_
    refine tw 22 rfl .refl hQ (gi 37 c74) (fun _ _ _ => Y.subI rfl rfl) ?_
    refine tw 23 rfl .refl hQ (gi 37 c74) (fun _ _ _ => Y.idxS rfl z92 rfl slc46 g89) ?_
    refine tw 24 rfl .refl hQ (gi 37 c74) (fun _ _ _ => Y.fieldAddr _ rfl fld45_1 rfl) ?_
    refine tw 25 rfl .refl hQ (gi 37 c74) (fun S₀ X₀ e₀ => Y.loadS [sL ((getI a0 (wrap64 (x10 - (1 : Int)))).bits)] rfl (At.part (q93.up e₀) 1 1 _ rfl rfl) row23 (by kernel_rfl)) ?_
    refine tw 26 rfl .refl hQ (gi 37 c74) (fun _ _ _ => Y.fieldAddr 1 rfl fld45_1 rfl) ?_
    refine tw 27 rfl .refl hQ (gi 37 c74) (fun S₀ X₀ e₀ => Y.loadB (X₀.length + 0)  1 1 [sL ((getI a0 x10).bits)] rfl (Lk rfl) rfl rfl row23 (by kernel_rfl)) ?_
    refine g1 28 ?_
    refine GD1.on rfl (gi 37 c74) (by kernel_rfl) (cl fb62 (r01_Order_ok ((getI a0 (wrap64 (x10 - (1 : Int)))).bits) ((getI a0 x10).bits) wt94) (fun v118 S119 e120 z121 => ⟨⟨[], .refl, (l2 e106 (l2 e113 e120))⟩, ?_⟩))
    have q122 := q115.up e120
    have q123 := q116.up e120
    have q124 := q117.up e120
    obtain rfl := z121
    refine tw 29 rfl .refl hQ (gi 37 c74) (fun _ _ _ => Y.neI rfl rfl) ?_
    refine tw 30 rfl .refl hQ (gi 20 c38) (fun _ _ _ => Y.pickF _ c74 rfl rfl) ?_
    refine tn 31 rfl hQ (fun _ _ _ => Y.pickT _ c38 rfl rfl) ?_
    refine dn ?_
    refine GX.keep [49, 10, 9, 8, 0] rfl ?_
    exact hK36 _ _ _ ⟨(l2 e106 (l2 e113 e120)), rfl, rfl⟩
   replace h := ite_f c38 h
   obtain rfl := Option.some.inj h
   refine G.drawN 32 mixed (by kernel_rfl) ?_
   refine tn 0 rfl hQ (fun _ _ _ => Y.move rfl) ?_
   refine tn 1 rfl hQ (fun _ _ _ => Y.gtI rfl rfl) ?_
   refine tn 2 rfl hQ (fun _ _ _ => Y.move rfl) ?_
   refine tf 3 rfl .refl hQ (gn 20 c38) ?_
   refine tf 4 rfl .refl hQ (gn 20 c38) ?_
   refine tf 5 rfl .refl hQ (gn 20 c38) ?_
   refine tf 6 rfl .refl hQ (gn 20 c38) ?_
   refine tf 7 rfl .refl hQ (gn 20 c38) ?_
   refine tf 8 rfl .refl hQ (gn 20 c38) ?_
   refine tf 9 rfl .refl hQ (gn 20 c38) ?_
   refine tf 10 rfl .refl hQ (gn 20 c38) ?_
   refine tf 11 rfl .refl hQ (gu 28) ?_
   refine tf 12 rfl .refl hQ (gu 28) ?_
   refine tf 13 rfl .refl hQ (gu 28) ?_
   refine tf 14 rfl .refl hQ (gu 28) ?_
   refine tf 15 rfl .refl hQ (gu 28) ?_
   refine tf 16 rfl .refl hQ (gu 28) ?_
   refine tf 17 rfl .refl hQ (gu 28) ?_
   refine tf 18 rfl .refl hQ (gn 20 c38) ?_
   refine tf 19 rfl .refl hQ (gn 20 c38) ?_
   refine tf 20 rfl .refl hQ (gu 37) ?_
   refine tf 21 rfl .refl hQ (gu 37) ?_
   refine tf 22 rfl .refl hQ (gu 37) ?_
   refine tf 23 rfl .refl hQ (gu 37) ?_
   refine tf 24 rfl .refl hQ (gu 37) ?_
   refine tf 25 rfl .refl hQ (gu 37) ?_
   refine tf 26 rfl .refl hQ (gu 37) ?_
   refine tf 27 rfl .refl hQ (gu 37) ?_
   refine tf 28 rfl .refl hQ (gu 37) ?_
   refine tf 29 rfl .refl hQ (gu 37) ?_
   refine tf 30 rfl .refl hQ (gn 20 c38) ?_
   refine tn 31 rfl hQ (fun _ _ _ => Y.pickF _ c38 rfl rfl) ?_
   refine dn ?_
   refine GX.keep [49, 10, 9, 8, 0] rfl ?_
   exact hK36 _ _ _ ⟨l0, rfl, rfl⟩
  rintro _ S125 _ ⟨e126, rfl, rfl⟩
  replace qa0 := qa0.up e126
  refine GX.then hK35 ?_
  refine G.cond _ rfl (fun c127 => ?_) (fun c127 => ?_)
  ·replace h := ite_t c127 h
   refine sr (fun _ hK128 => ?_)
   refine an ?_
   refine nt hK128 ?_
   refine G.ret ?_
   obtain rfl := Option.some.inj h
   obtain rfl := hf1 _ rfl
   have h := ho13
   try dsimp only at h
   obtain rfl := Option.some.inj h
   exact hret _ _ _ _ 1 (l2 e9 (l2 e31 e126)) (.cons (.tmp rfl) .nil) rfl rfl
  replace h := ite_f c127 h
  refine G.skip ?_
  refine GX.normal_block ?_
  refine GX.then hK17 ?_
  refine G.region ?_
  refine vl (Y.addI rfl rfl) ?_
  refine mv ?_
  refine GO.nil ?_
  obtain rfl := Option.some.inj h
  refine GX.keep [10, 9, 8, 0] rfl ?_
  refine GX.less 1 rfl ?_
  exact hK1 _ _ _ _ rfl ⟨(l2 e9 (l2 e31 e126)), rfl, rfl⟩
 replace h := ite_f c16 h
 refine G.exit ?_
 refine GX.exit_then ?_
 obtain rfl := Option.some.inj h
 refine GX.keep [] rfl ?_
 exact hx11 _ _ _ ⟨_, e9, (hf1 _ rfl).symm, rfl, rfl⟩

/- chirograph/chirographref16.Sorted -/
def r16_Sorted_s2 (a0 : (List Item)) (x9 : Int) (x10 : (List Item)) : (Int × Bool × (List Item)) → Option ((Int × Bool × (List Item)) ⊕ (Int × Bool × (List Item)))
 | (x35, x36, x37) => (if (decide (x35 < (lenI x10))) = true then ((req ((0 : Int) ≤ x35 ∧ x35 < lenI x10)).bind fun _ => ((if (!x36) = true then ((r01_Order ((getI a0 x9).bits) ((getI x10 x35).bits)).bind fun t58 => some (t58 == (-1 : Int))) else some false).bind fun b55 => (if b55 = true then ((req (List.length x37 + List.length ([(getI a0 x9)] : List Item) ≤ LIM)).bind fun _ => ((req (List.length (x37 ++ ([(getI a0 x9)] : List Item)) + List.length ([(getI x10 x35)] : List Item) ≤ LIM)).bind fun _ => some (.inl ((wrap64 (x35 + (1 : Int))), true, ((x37 ++ ([(getI a0 x9)] : List Item)) ++ ([(getI x10 x35)] : List Item)))))) else ((req (List.length x37 + List.length ([(getI x10 x35)] : List Item) ≤ LIM)).bind fun _ => some (.inl ((wrap64 (x35 + (1 : Int))), x36, (x37 ++ ([(getI x10 x35)] : List Item)))))))) else some (.inr (x35, x36, x37)))

def r16_Sorted_s1 (a0 : (List Item)) : (Int × (List Item)) → Option ((Int × (List Item)) ⊕ (Int × (List Item)))
 | (x9, x10) => (if (decide (x9 < (lenI a0))) = true then ((req ((0 : Int) ≤ x9 ∧ x9 < lenI a0)).bind fun _ => ((iter (r16_Sorted_s2 a0 x9 x10) ((0 : Int), false, ([] : List Item))).bind fun b40 => (match b40 with | (x35, x36, x37) => (if (!x36) = true then ((req (List.length x37 + List.length ([(getI a0 x9)] : List Item) ≤ LIM)).bind fun _ => some (.inl ((wrap64 (x9 + (1 : Int))), (x37 ++ ([(getI a0 x9)] : List Item))))) else some (.inl ((wrap64 (x9 + (1 : Int))), x37)))))) else some (.inr (x9, x10)))

def r16_Sorted  (a0 : (List Item)) : Option (List Item) :=
 ((iter (r16_Sorted_s1 a0) ((0 : Int), ([] : List Item))).bind fun b13 => (match b13 with | (x9, x10) => some x10))

theorem r16_Sorted_ok {S : Hp} (a0 : (List Item)) {va0 : Value} (qa0 : Sls S va0 a0) {r : (List Item)} (h : r16_Sorted a0 = some r) : Fn Tryz.prog 130 [va0] S (fun v S' => Sls S' v r) := by
 unfold r16_Sorted at h
 refine fo [.tmp 2] 52 Tryz.func130 Tryz.ntmps130 (fun o F Q hQ hN hret => ?_)
 refine sr (fun _ hK1 => ?_)
 refine an ?_
 refine nt hK1 ?_
 refine sr (fun _ hK2 => ?_)
 refine bs ([] : List Item) el46 (fun v3 => ?_)
 refine an ?_
 refine nt hK2 ?_
 refine G.seq (fun _ hK5 => ?_)
 refine sr (fun _ hK6 => ?_)
 refine mv ?_
 refine vl (Y.lenS rfl qa0 slc46) ?_
 refine mv ?_
 refine nt hK6 ?_
 refine G.block ?_
 obtain ⟨b13, wb13, ho14⟩ := bind_some' h
 refine G.keep [13, 12, 11, 3] rfl ?_
 refine G.loopK (r16_Sorted_s1 a0) (fun s₀ E' S' L' => match s₀ with | (x9, x10) => S.le S' ∧ ∃ (v11 : Value), E' = [(13, .int .i64 x9), (12, .int .i64 (lenI a0)), (11, va0), (3, v11)] ∧ Rw v11 x10 :: F = L') b13 0 (fun E₀ S₀ L₀ => ∃ (x9 : Int) (x10 : (List Item)) (v11 : Value), S.le S₀ ∧ b13 = (x9, x10) ∧ E₀ = [(3, v11)] ∧ Rw v11 x10 :: F = L₀) wb13 ?_ ?_ ?_
 ·rintro _ S88 _ ⟨x9, x10, v11, e89, rfl, rfl, rfl⟩
  have h := ho14; clear ho14
  try dsimp only at h
  refine GX.exit_block ?_
  refine GX.then hK5 ?_
  refine sr (fun _ hK90 => ?_)
  refine mv ?_
  refine an ?_
  refine nt hK90 ?_
  refine G.ret ?_
  refine GX.shareR 0 rfl (fun S91 e92 q93 => ?_)
  obtain rfl := Option.some.inj h
  exact hret _ _ _ _ 1 (l2 e89 e92) (.cons (.tmp rfl) .nil) q93 rfl
 ·exact ⟨Hp.le_refl _, v3, rfl, rfl⟩
 rintro ⟨x9, x10⟩ _ S7 _ ⟨e8, v11, rfl, rfl⟩ out1 h hf1 K1 hK1 hx12
 rw [r16_Sorted_s1] at h
 replace qa0 := qa0.up e8
 refine sr (fun _ hK15 => ?_)
 refine vl (Y.ltI rfl rfl) ?_
 refine nt hK15 ?_
 refine G.seq (fun _ hK16 => ?_)
 refine G.cond _ rfl (fun c17 => ?_) (fun c17 => ?_)
 ·replace h := ite_t c17 h
  refine sk hK16 ?_
  refine G.seq (fun _ hK18 => ?_)
  refine G.block ?_
  refine sr (fun _ hK19 => ?_)
  obtain ⟨g20, h⟩ := req_bind h
  obtain ⟨ad21, p22, z23, q24⟩ := Sls.at qa0 g20
  refine vl (Y.idxS rfl z23 rfl slc46 g20) ?_
  refine vl (Y.loadS [sV (.int .i64 ((getI a0 x9).len)), sL ((getI a0 x9).bits), sL ((getI a0 x9).sum), sV (.int .i64 ((getI a0 x9).at_))] rfl (At.part q24 0 4 _ rfl rfl) row45 (by kernel_rfl)) ?_
  refine st (OS.alloc _ (by decide) zero45 (fun ad25 => ?_))
  refine sf 0 4 [sV (.int .i64 ((getI a0 x9).len)), sL ((getI a0 x9).bits), sL ((getI a0 x9).sum), sV (.int .i64 ((getI a0 x9).at_))] (aggV_cells _) (oI (oL (oL (oI oN)))) size45 ?_
  refine nt hK19 ?_
  refine sr (fun _ hK27 => ?_)
  refine bs ([] : List Item) el46 (fun v28 => ?_)
  refine an ?_
  refine nt hK27 ?_
  refine sr (fun _ hK30 => ?_)
  refine an ?_
  refine nt hK30 ?_
  refine G.seq (fun _ hK31 => ?_)
  refine sr (fun _ hK32 => ?_)
  refine mv ?_
  refine vl (Y.lenR 2  rfl rfl slc46) ?_
  refine mv ?_
  refine nt hK32 ?_
  refine G.block ?_
  obtain ⟨b40, wb40, ho41⟩ := bind_some' h
  refine G.keep [20, 19, 18, 7, 6, 5, 13, 12, 11] rfl ?_
  refine G.loopK (r16_Sorted_s2 a0 x9 x10) (fun s₀ E' S' L' => match s₀ with | (x35, x36, x37) => S7.le S' ∧ ∃ (v38 : Value), E' = [(20, .int .i64 x35), (19, .int .i64 (lenI x10)), (18, v11), (7, .bool x36), (6, v38), (5, .pointer (some ⟨ad25, 0, none⟩)), (13, .int .i64 x9), (12, .int .i64 (lenI a0)), (11, va0)] ∧ Rw v38 x37 :: Blk ad25 [sV (.int .i64 ((getI a0 x9).len)), sL ((getI a0 x9).bits), sL ((getI a0 x9).sum), sV (.int .i64 ((getI a0 x9).at_))] :: Rw v11 x10 :: F = L') b40 2 (fun E₀ S₀ L₀ => ∃ (x35 : Int) (x36 : Bool) (x37 : (List Item)) (v38 : Value), S7.le S₀ ∧ b40 = (x35, x36, x37) ∧ E₀ = [(7, .bool x36), (6, v38), (5, .pointer (some ⟨ad25, 0, none⟩)), (13, .int .i64 x9), (12, .int .i64 (lenI a0)), (11, va0)] ∧ Rw v38 x37 :: Blk ad25 [sV (.int .i64 ((getI a0 x9).len)), sL ((getI a0 x9).bits), sL ((getI a0 x9).sum), sV (.int .i64 ((getI a0 x9).at_))] :: Rw v11 x10 :: F = L₀) wb40 ?_ ?_ ?_
  ·rintro _ S79 _ ⟨x35, x36, x37, v38, e80, rfl, rfl, rfl⟩
   have h := ho41; clear ho41
   try dsimp only at h
   replace qa0 := qa0.up e80
   refine GX.exit_block ?_
   refine GX.then hK31 ?_
   refine G.seq (fun _ hK81 => ?_)
   refine sr (fun _ hK82 => ?_)
   refine mv ?_
   refine vl (Y.not rfl) ?_
   refine nt hK82 ?_
   refine G.cond _ rfl (fun c83 => ?_) (fun c83 => ?_)
   ·replace h := ite_t c83 h
    refine G.region ?_
    refine mv ?_
    refine lb 1 0 4 [sV (.int .i64 ((getI a0 x9).len)), sL ((getI a0 x9).bits), sL ((getI a0 x9).sum), sV (.int .i64 ((getI a0 x9).at_))] row45 ?_
    refine bs ([(getI a0 x9)] : List Item) el46 (fun v84 => ?_)
    obtain ⟨g86, h⟩ := req_bind h
    refine st (OS.append (xs := x37) (ys := ([(getI a0 x9)] : List Item)) 1 (by decide) rfl rfl rfl (Rw.src (k := 0) rfl) el46 src46 g86 (fun v87 => ?_))
    refine an ?_
    refine nt hK81 ?_
    refine G.region ?_
    refine mv ?_
    refine an ?_
    refine GO.nil ?_
    refine GX.normal_block ?_
    refine GX.then hK18 ?_
    refine G.region ?_
    refine vl (Y.addI rfl rfl) ?_
    refine mv ?_
    refine GO.nil ?_
    obtain rfl := Option.some.inj h
    refine GX.keep [13, 12, 11, 3] rfl ?_
    refine GX.perm (.cons _ (.trans (.swap _ _ _) (.cons _ (.trans (.swap _ _ _) (.cons _ (.refl _)))))) ?_
    refine GX.less 3 rfl ?_
    exact hK1 _ _ _ _ rfl ⟨(l2 e8 e80), v87, rfl, rfl⟩
   replace h := ite_f c83 h
   refine sk hK81 ?_
   refine G.region ?_
   refine mv ?_
   refine an ?_
   refine GO.nil ?_
   refine GX.normal_block ?_
   refine GX.then hK18 ?_
   refine G.region ?_
   refine vl (Y.addI rfl rfl) ?_
   refine mv ?_
   refine GO.nil ?_
   obtain rfl := Option.some.inj h
   refine GX.keep [13, 12, 11, 3] rfl ?_
   refine GX.perm (.trans (.swap _ _ _) (.cons _ (.trans (.swap _ _ _) (.cons _ (.refl _))))) ?_
   refine GX.less 2 rfl ?_
   exact hK1 _ _ _ _ rfl ⟨(l2 e8 e80), v38, rfl, rfl⟩
  ·exact ⟨Hp.le_refl _, v28, rfl, rfl⟩
  rintro ⟨x35, x36, x37⟩ _ S33 _ ⟨e34, v38, rfl, rfl⟩ out2 h hf2 K2 hK2 hx39
  rw [r16_Sorted_s2] at h
  replace qa0 := qa0.up e34
  refine sr (fun _ hK42 => ?_)
  refine vl (Y.ltI rfl rfl) ?_
  refine nt hK42 ?_
  refine G.seq (fun _ hK43 => ?_)
  refine G.cond _ rfl (fun c44 => ?_) (fun c44 => ?_)
  ·replace h := ite_t c44 h
   refine sk hK43 ?_
   refine G.seq (fun _ hK45 => ?_)
   refine G.block ?_
   refine sr (fun _ hK46 => ?_)
   obtain ⟨g47, h⟩ := req_bind h
   refine GO.rowAt 2 rfl g47 (fun ad48 p49 z50 => ?_)
   refine vl (Y.idxR rfl z50 rfl slc46 g47) ?_
   refine vl (Y.loadRow 2  x35 0 4 [sV (.int .i64 ((getI x10 x35).len)), sL ((getI x10 x35).bits), sL ((getI x10 x35).sum), sV (.int .i64 ((getI x10 x35).at_))] rfl rfl z50 g47 rfl rfl row45 (by kernel_rfl)) ?_
   refine st (OS.alloc _ (by decide) zero45 (fun ad51 => ?_))
   refine sf 0 4 [sV (.int .i64 ((getI x10 x35).len)), sL ((getI x10 x35).bits), sL ((getI x10 x35).sum), sV (.int .i64 ((getI x10 x35).at_))] (aggV_cells _) (oI (oL (oL (oI oN)))) size45 ?_
   refine nt hK46 ?_
   refine G.seq (fun _ hK53 => ?_)
   refine sr (fun _ hK54 => ?_)
   refine mv ?_
   refine vl (Y.not rfl) ?_
   refine mv ?_
   obtain ⟨b55, wb55, h⟩ := bind_some' h
   refine GO.joinB 7 33 (b55 = ·) (fun K57 hK57 => ?_) ?_
   ·replace h := wb55
    rcases Bool.eq_false_or_eq_true (!x36) with c56 | c56
    ·replace h := ite_t c56 h
     refine gv 26 c56 (Y.fieldAddr 1 rfl fld45_1 rfl) ?_
     refine gv 26 c56 (Y.loadB 2  1 1 [sL ((getI a0 x9).bits)] rfl rfl rfl rfl row23 (by kernel_rfl)) ?_
     refine gv 26 c56 (Y.fieldAddr 1 rfl fld45_1 rfl) ?_
     refine gv 26 c56 (Y.loadB 0  1 1 [sL ((getI x10 x35).bits)] rfl rfl rfl rfl row23 (by kernel_rfl)) ?_
     obtain ⟨t58, wt58, h⟩ := bind_some' h
     refine GO.onS 26 rfl (by decide) rfl c56 (cl fb62 (r01_Order_ok ((getI a0 x9).bits) ((getI x10 x35).bits) wt58) (fun v59 S60 e61 z62 => ?_))
     replace qa0 := qa0.up e61
     obtain rfl := z62
     refine gv 26 c56 (Y.eqI rfl rfl) ?_
     refine vl (Y.pickT _ c56 rfl rfl) ?_
     refine GO.nil ?_
     refine p2 (p2 (p2 (p2 (p2 (p2 ?_)))))
     exact hK57 _ _ e61 (Option.some.inj h).symm
    replace h := ite_f c56 h
    refine gf 26 c56 ?_
    refine gf 26 c56 ?_
    refine gf 26 c56 ?_
    refine gf 26 c56 ?_
    refine gf 26 c56 ?_
    refine gf 26 c56 ?_
    refine vl (Y.pickF _ c56 rfl rfl) ?_
    refine GO.nil ?_
    refine p2 (p2 (p2 (p2 (p2 (p2 ?_)))))
    exact hK57 _ _ l0 (Option.some.inj h).symm
   rintro _ S63 e64 rfl
   replace qa0 := qa0.up e64
   refine nt hK54 ?_
   refine G.cond _ rfl (fun c65 => ?_) (fun c65 => ?_)
   ·replace h := ite_t c65 h
    refine sr (fun _ hK66 => ?_)
    refine mv ?_
    refine lb 2 0 4 [sV (.int .i64 ((getI a0 x9).len)), sL ((getI a0 x9).bits), sL ((getI a0 x9).sum), sV (.int .i64 ((getI a0 x9).at_))] row45 ?_
    refine bs ([(getI a0 x9)] : List Item) el46 (fun v67 => ?_)
    obtain ⟨g69, h⟩ := req_bind h
    refine st (OS.append (xs := x37) (ys := ([(getI a0 x9)] : List Item)) 2 (by decide) rfl rfl rfl (Rw.src (k := 0) rfl) el46 src46 g69 (fun v70 => ?_))
    refine an ?_
    refine nt hK66 ?_
    refine G.region ?_
    refine an ?_
    refine nt hK53 ?_
    refine G.region ?_
    refine mv ?_
    refine lb 1 0 4 [sV (.int .i64 ((getI x10 x35).len)), sL ((getI x10 x35).bits), sL ((getI x10 x35).sum), sV (.int .i64 ((getI x10 x35).at_))] row45 ?_
    refine bs ([(getI x10 x35)] : List Item) el46 (fun v71 => ?_)
    obtain ⟨g73, h⟩ := req_bind h
    refine st (OS.append (xs := (x37 ++ ([(getI a0 x9)] : List Item))) (ys := ([(getI x10 x35)] : List Item)) 3 (by decide) rfl rfl rfl (Rw.src (k := 0) rfl) el46 src46 g73 (fun v74 => ?_))
    refine an ?_
    refine GO.nil ?_
    refine GX.normal_block ?_
    refine GX.then hK45 ?_
    refine G.region ?_
    refine vl (Y.addI rfl rfl) ?_
    refine mv ?_
    refine GO.nil ?_
    obtain rfl := Option.some.inj h
    refine GX.keep [20, 19, 18, 7, 6, 5, 13, 12, 11] rfl ?_
    refine GX.less 3 rfl ?_
    exact hK2 _ _ _ _ rfl ⟨(l2 e34 e64), v74, rfl, rfl⟩
   replace h := ite_f c65 h
   refine sk hK53 ?_
   refine G.region ?_
   refine mv ?_
   refine lb 0 0 4 [sV (.int .i64 ((getI x10 x35).len)), sL ((getI x10 x35).bits), sL ((getI x10 x35).sum), sV (.int .i64 ((getI x10 x35).at_))] row45 ?_
   refine bs ([(getI x10 x35)] : List Item) el46 (fun v75 => ?_)
   obtain ⟨g77, h⟩ := req_bind h
   refine st (OS.append (xs := x37) (ys := ([(getI x10 x35)] : List Item)) 2 (by decide) rfl rfl rfl (Rw.src (k := 0) rfl) el46 src46 g77 (fun v78 => ?_))
   refine an ?_
   refine GO.nil ?_
   refine GX.normal_block ?_
   refine GX.then hK45 ?_
   refine G.region ?_
   refine vl (Y.addI rfl rfl) ?_
   refine mv ?_
   refine GO.nil ?_
   obtain rfl := Option.some.inj h
   refine GX.keep [20, 19, 18, 7, 6, 5, 13, 12, 11] rfl ?_
   refine GX.less 2 rfl ?_
   exact hK2 _ _ _ _ rfl ⟨(l2 e34 e64), v78, rfl, rfl⟩
  replace h := ite_f c44 h
  refine G.exit ?_
  refine GX.exit_then ?_
  obtain rfl := Option.some.inj h
  refine GX.keep [7, 6, 5, 13, 12, 11] rfl ?_
  exact hx39 _ _ _ ⟨_, _, _, _, e34, (hf2 _ rfl).symm, rfl, rfl⟩
 replace h := ite_f c17 h
 refine G.exit ?_
 refine GX.exit_then ?_
 obtain rfl := Option.some.inj h
 refine GX.keep [3] rfl ?_
 exact hx12 _ _ _ ⟨_, _, _, e8, (hf1 _ rfl).symm, rfl, rfl⟩

/- chirograph/chirographref16.Of -/
def r16_Of_s1 (a0 : (List Leaf)) : (Int × (List Item)) → Option ((Int × (List Item)) ⊕ (Int × (List Item)))
 | (x9, x10) => (if (decide (x9 < (lenI a0))) = true then ((req ((0 : Int) ≤ x9 ∧ x9 < lenI a0)).bind fun _ => ((r16_Leaf (getI a0 x9)).bind fun t27 => ((req (List.length x10 + List.length ([t27] : List Item) ≤ LIM)).bind fun _ => some (.inl ((wrap64 (x9 + (1 : Int))), (x10 ++ ([t27] : List Item))))))) else some (.inr (x9, x10)))

def r16_Of  (a0 : (List Leaf)) : Option (List Item) :=
 ((iter (r16_Of_s1 a0) ((0 : Int), ([] : List Item))).bind fun b13 => (match b13 with | (x9, x10) => ((r16_Sorted x10).bind fun t42 => some t42)))

theorem r16_Of_ok {S : Hp} (a0 : (List Leaf)) {va0 : Value} (qa0 : Sls S va0 a0) {r : (List Item)} (h : r16_Of a0 = some r) : Fn Tryz.prog 50 [va0] S (fun v S' => Sls S' v r) := by
 unfold r16_Of at h
 refine fo [.tmp 2] 21 Tryz.func50 Tryz.ntmps50 (fun o F Q hQ hN hret => ?_)
 refine sr (fun _ hK1 => ?_)
 refine an ?_
 refine nt hK1 ?_
 refine sr (fun _ hK2 => ?_)
 refine bs ([] : List Item) el46 (fun v3 => ?_)
 refine an ?_
 refine nt hK2 ?_
 refine G.seq (fun _ hK5 => ?_)
 refine sr (fun _ hK6 => ?_)
 refine mv ?_
 refine vl (Y.lenS rfl qa0 slc53) ?_
 refine mv ?_
 refine nt hK6 ?_
 refine G.block ?_
 obtain ⟨b13, wb13, ho14⟩ := bind_some' h
 refine G.keep [9, 8, 7, 3] rfl ?_
 refine G.loopK (r16_Of_s1 a0) (fun s₀ E' S' L' => match s₀ with | (x9, x10) => S.le S' ∧ ∃ (v11 : Value), E' = [(9, .int .i64 x9), (8, .int .i64 (lenI a0)), (7, va0), (3, v11)] ∧ Rw v11 x10 :: F = L') b13 0 (fun E₀ S₀ L₀ => ∃ (x9 : Int) (x10 : (List Item)) (v11 : Value), S.le S₀ ∧ b13 = (x9, x10) ∧ E₀ = [(3, v11)] ∧ Rw v11 x10 :: F = L₀) wb13 ?_ ?_ ?_
 ·rintro _ S36 _ ⟨x9, x10, v11, e37, rfl, rfl, rfl⟩
  have h := ho14; clear ho14
  try dsimp only at h
  refine GX.exit_block ?_
  refine GX.then hK5 ?_
  refine sr (fun _ hK38 => ?_)
  refine mv ?_
  obtain ⟨t42, wt42, h⟩ := bind_some' h
  refine GO.shareR 0 rfl (fun S39 e40 q41 => ?_)
  refine st (cl fb130 (r16_Sorted_ok x10 q41 wt42) (fun v43 S44 e45 z46 => ?_))
  replace q41 := q41.up e45
  have q48 := z46
  refine an ?_
  refine nt hK38 ?_
  refine G.ret ?_
  obtain rfl := Option.some.inj h
  exact hret _ _ _ _ 1 (l2 e37 (l2 e40 e45)) (.cons (.tmp rfl) .nil) q48 rfl
 ·exact ⟨Hp.le_refl _, v3, rfl, rfl⟩
 rintro ⟨x9, x10⟩ _ S7 _ ⟨e8, v11, rfl, rfl⟩ out1 h hf1 K1 hK1 hx12
 rw [r16_Of_s1] at h
 replace qa0 := qa0.up e8
 refine sr (fun _ hK15 => ?_)
 refine vl (Y.ltI rfl rfl) ?_
 refine nt hK15 ?_
 refine G.seq (fun _ hK16 => ?_)
 refine G.cond _ rfl (fun c17 => ?_) (fun c17 => ?_)
 ·replace h := ite_t c17 h
  refine sk hK16 ?_
  refine G.seq (fun _ hK18 => ?_)
  refine G.block ?_
  refine sr (fun _ hK19 => ?_)
  obtain ⟨g20, h⟩ := req_bind h
  obtain ⟨ad21, p22, z23, q24⟩ := Sls.at qa0 g20
  refine vl (Y.idxS rfl z23 rfl slc53 g20) ?_
  refine vl (Y.loadS [sL ((getI a0 x9).label), sL ((getI a0 x9).value), sV (.int .i64 ((getI a0 x9).at_))] rfl (At.part q24 0 3 _ rfl rfl) row41 (by kernel_rfl)) ?_
  refine st (OS.alloc _ (by decide) zero41 (fun ad25 => ?_))
  refine sf 0 3 [sL ((getI a0 x9).label), sL ((getI a0 x9).value), sV (.int .i64 ((getI a0 x9).at_))] (aggV_cells _) (oL (oL (oI oN))) size41 ?_
  refine nt hK19 ?_
  refine G.region ?_
  refine mv ?_
  refine lb 0 0 3 [sL ((getI a0 x9).label), sL ((getI a0 x9).value), sV (.int .i64 ((getI a0 x9).at_))] row41 ?_
  obtain ⟨t27, wt27, h⟩ := bind_some' h
  refine st (cl fb57 (r16_Leaf_ok (getI a0 x9) wt27) (fun v28 S29 e30 z31 => ?_))
  replace qa0 := qa0.up e30
  replace q24 := q24.up e30
  obtain rfl := z31
  refine bs ([t27] : List Item) el46 (fun v32 => ?_)
  obtain ⟨g34, h⟩ := req_bind h
  refine st (OS.append (xs := x10) (ys := ([t27] : List Item)) 2 (by decide) rfl rfl rfl (Rw.src (k := 0) rfl) el46 src46 g34 (fun v35 => ?_))
  refine an ?_
  refine GO.nil ?_
  refine GX.normal_block ?_
  refine GX.then hK18 ?_
  refine G.region ?_
  refine vl (Y.addI rfl rfl) ?_
  refine mv ?_
  refine GO.nil ?_
  obtain rfl := Option.some.inj h
  refine GX.keep [9, 8, 7, 3] rfl ?_
  refine GX.less 2 rfl ?_
  exact hK1 _ _ _ _ rfl ⟨(l2 e8 e30), v35, rfl, rfl⟩
 replace h := ite_f c17 h
 refine G.exit ?_
 refine GX.exit_then ?_
 obtain rfl := Option.some.inj h
 refine GX.keep [3] rfl ?_
 exact hx12 _ _ _ ⟨_, _, _, e8, (hf1 _ rfl).symm, rfl, rfl⟩

end
end Go.Ch
end
section
/- Functions of the program: what each comes to, proved. -/
set_option linter.unusedVariables false
set_option linter.unusedSimpArgs false
set_option maxRecDepth 100000
set_option maxHeartbeats 4000000
namespace Go.Ch
open Go.RowKit (wrap64)
open Go.Proofs
noncomputable section
/- chirograph/chirographref18.has -/
def r18_has  (a0 : Item) (a1 : Lab) : Option Bool :=
 ((r01_Cut a1 a0.len).bind fun t7 => some (t7 == a0.bits))

theorem r18_has_ok {S : Hp} (a0 : Item) (a1 : Lab) {r : Bool} (h : r18_has a0 a1 = some r) : Fn Tryz.prog 61 [aggV [sV (.int .i64 a0.len), sL a0.bits, sL a0.sum, sV (.int .i64 a0.at_)], aggV [sL a1]] S (fun v S' => v = .bool r) := by
 unfold r18_has at h
 refine fo [.tmp 4] 12 Tryz.func61 Tryz.ntmps61 (fun o F Q hQ hN hret => ?_)
 refine sr (fun _ hK1 => ?_)
 refine st (OS.boxA (by decide) rfl (fun ad2 => ?_))
 refine st (OS.boxA (by decide) rfl (fun ad4 => ?_))
 refine an ?_
 refine nt hK1 ?_
 refine G.seq (fun _ hK6 => ?_)
 obtain ⟨t7, wt7, h⟩ := bind_some' h
 refine G.drawN 8 mixed (by kernel_rfl) ?_
 refine tn 0 rfl hQ (fun S₀ X₀ e₀ => Y.loadB (X₀.length + 0)  0 1 [sL a1] rfl (Lk rfl) rfl rfl row23 (by kernel_rfl)) ?_
 refine tn 1 rfl hQ (fun _ _ _ => Y.fieldAddr 0 rfl fld45_0 rfl) ?_
 refine tn 2 rfl hQ (fun S₀ X₀ e₀ => Y.loadV (X₀.length + 1)  0 _ rfl (Lk rfl) rfl rfl one3) ?_
 refine tn 4 rfl hQ (fun _ _ _ => Y.fieldAddr 1 rfl fld45_1 rfl) ?_
 refine tn 5 rfl hQ (fun S₀ X₀ e₀ => Y.loadB (X₀.length + 1)  1 1 [sL a0.bits] rfl (Lk rfl) rfl rfl row23 (by kernel_rfl)) ?_
 refine g1 3 ?_
 refine n1 rfl (cl fb137 (r01_Cut_ok a1 a0.len wt7) (fun v12 S13 e14 z15 => ⟨⟨[], .refl, e14⟩, ?_⟩))
 obtain rfl := z15
 refine tn 6 rfl hQ (fun _ _ _ => Y.eqA rfl rfl eqt23 (by decide) (EqV.lab _ _ Tryz.underlying23 one5 Tryz.underlying5)) ?_
 refine tn 7 rfl hQ (fun _ _ _ => Y.assign rfl) ?_
 refine dn ?_
 refine GX.then hK6 ?_
 refine G.ret ?_
 obtain rfl := Option.some.inj h
 exact hret _ _ _ _ 2 e14 (.cons (.tmp rfl) .nil) rfl rfl

end
end Go.Ch
end
