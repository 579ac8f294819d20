/- ProofReads returns true at every input, and the input reads as it did. Part 4 of 5. No condition. -/
import Derived.Test.YtchjaknlegaegaaGreatPr2
section
/- Functions of the program: what each comes to, proved. -/
set_option linter.unusedVariables false
set_option linter.unusedSimpArgs false
set_option maxRecDepth 100000
set_option maxHeartbeats 4000000
namespace Go.Ch
open Go.RowKit (wrap64)
open Go.Proofs
noncomputable section
/- chirograph/patch.Check -/
def patch_Check_s1 (a0 : (List Item)) : (Int) → Option ((Int) ⊕ (Int ⊕ (Int)))
 | x10 => (if (decide (x10 < (lenI a0))) = true then ((req ((0 : Int) ≤ x10 ∧ x10 < lenI a0)).bind fun _ => ((node_Good (getI a0 x10)).bind fun t28 => (if (!t28) = true then some (.inr (.inl (1 : Int))) else (if (x10 == (0 : Int)) = true then some (.inl (wrap64 (x10 + (1 : Int)))) else ((req ((0 : Int) ≤ (wrap64 (x10 - (1 : Int))) ∧ (wrap64 (x10 - (1 : Int))) < lenI a0)).bind fun _ => ((bits_Prefix_Over (⟨(getI a0 (wrap64 (x10 - (1 : Int)))).len, (getI a0 (wrap64 (x10 - (1 : Int)))).bits⟩ : Pfx) (⟨(getI a0 x10).len, (getI a0 x10).bits⟩ : Pfx)).bind fun t48 => (if t48 = true then (if t48 = true then some (.inr (.inl (3 : Int))) else some (.inl (wrap64 (x10 + (1 : Int))))) else ((bits_Prefix_Over (⟨(getI a0 x10).len, (getI a0 x10).bits⟩ : Pfx) (⟨(getI a0 (wrap64 (x10 - (1 : Int)))).len, (getI a0 (wrap64 (x10 - (1 : Int)))).bits⟩ : Pfx)).bind fun t57 => (if t57 = true then (if t57 = true then some (.inr (.inl (3 : Int))) else some (.inl (wrap64 (x10 + (1 : Int))))) else ((bits_Order ((getI a0 (wrap64 (x10 - (1 : Int)))).bits) ((getI a0 x10).bits)).bind fun t65 => (if (decide ((0 : Int) ≤ t65)) = true then some (.inr (.inl (3 : Int))) else some (.inl (wrap64 (x10 + (1 : Int))))))))))))))) else some (.inr (.inr x10)))

def patch_Check  (a0 : (List Item)) : Option Int :=
 (if (decide ((2000 : Int) < (lenI a0))) = true then some (2 : Int) else ((iter (patch_Check_s1 a0) (0 : Int)).bind fun b12 => (match b12 with | .inl r₀ => some r₀ | .inr x10 => some (0 : Int))))

theorem patch_Check_ok {S : Hp} (a0 : (List Item)) {va0 : Value} (qa0 : Sls S va0 a0) {r : Int} (h : patch_Check a0 = some r) : Fn Tryz.prog 43 [va0] S (fun v S' => v = .int .i64 r) := by
 unfold patch_Check at h
 refine fo [.tmp 2] 44 Tryz.func43 Tryz.ntmps43 (fun o F Q hQ hN hret => ?_)
 refine sr (fun _ hK1 => ?_)
 refine an ?_
 refine nt hK1 ?_
 refine G.seq (fun _ hK2 => ?_)
 refine sr (fun _ hK3 => ?_)
 refine mv ?_
 refine vl (Y.lenS rfl qa0 slc32) ?_
 refine vl (Y.gtI rfl rfl) ?_
 refine nt hK3 ?_
 refine G.cond _ rfl (fun c4 => ?_) (fun c4 => ?_)
 ·replace h := ite_t c4 h
  refine sr (fun _ hK5 => ?_)
  refine an ?_
  refine nt hK5 ?_
  refine G.ret ?_
  obtain rfl := Option.some.inj h
  exact hret _ _ _ _ 0 l0 (.cons (.tmp rfl) .nil) rfl rfl
 replace h := ite_f c4 h
 refine sk hK2 ?_
 refine G.seq (fun _ hK6 => ?_)
 refine sr (fun _ hK7 => ?_)
 refine mv ?_
 refine vl (Y.lenS rfl qa0 slc32) ?_
 refine mv ?_
 refine nt hK7 ?_
 refine G.block ?_
 obtain ⟨b12, wb12, ho13⟩ := bind_some' h
 refine G.keep [11, 10, 9, 0] rfl ?_
 refine G.loopK (patch_Check_s1 a0) (fun s₀ E' S' L' => match s₀ with | x10 => S.le S' ∧ E' = [(11, .int .i64 x10), (10, .int .i64 (lenI a0)), (9, va0), (0, va0)] ∧ F = L') b12 0 (fun E₀ S₀ L₀ => ∃ (x10 : Int), S.le S₀ ∧ b12 = .inr x10 ∧ E₀ = [] ∧ F = L₀) wb12 ?_ ?_ ?_
 ·rintro _ S72 _ ⟨x10, e73, rfl, rfl, rfl⟩
  have h := ho13; clear ho13
  try dsimp only at h
  refine GX.exit_block ?_
  refine GX.then hK6 ?_
  refine sr (fun _ hK74 => ?_)
  refine an ?_
  refine nt hK74 ?_
  refine G.ret ?_
  obtain rfl := Option.some.inj h
  exact hret _ _ _ _ 0 e73 (.cons (.tmp rfl) .nil) rfl rfl
 ·exact ⟨Hp.le_refl _, rfl, rfl⟩
 rintro x10 _ S8 _ ⟨e9, rfl, rfl⟩ out1 h hf1 K1 hK1 hx11
 rw [patch_Check_s1] at h
 replace qa0 := qa0.up e9
 refine sr (fun _ hK14 => ?_)
 refine vl (Y.ltI rfl rfl) ?_
 refine nt hK14 ?_
 refine G.seq (fun _ hK15 => ?_)
 refine G.cond _ rfl (fun c16 => ?_) (fun c16 => ?_)
 ·replace h := ite_t c16 h
  refine sk hK15 ?_
  refine G.seq (fun _ hK17 => ?_)
  refine G.block ?_
  refine sr (fun _ hK18 => ?_)
  refine mv ?_
  obtain ⟨g19, h⟩ := req_bind h
  obtain ⟨ad20, p21, z22, q23⟩ := Sls.at qa0 g19
  refine vl (Y.idxS rfl z22 rfl slc32 g19) ?_
  refine vl (Y.loadS [sV (.int .i64 ((getI a0 x10).len)), sL ((getI a0 x10).bits), sL ((getI a0 x10).sum), sV (.int .i64 ((getI a0 x10).at_))] rfl (At.part q23 0 4 _ rfl rfl) row29 (by kernel_rfl)) ?_
  refine st (OS.alloc _ (by decide) zero29 (fun ad24 => ?_))
  refine an ?_
  refine sf 0 4 [sV (.int .i64 ((getI a0 x10).len)), sL ((getI a0 x10).bits), sL ((getI a0 x10).sum), sV (.int .i64 ((getI a0 x10).at_))] (aggV_cells _) (oI (oL (oL (oI oN)))) size29 ?_
  refine nt hK18 ?_
  refine G.seq (fun _ hK26 => ?_)
  refine sr (fun _ hK27 => ?_)
  refine lb 0 0 4 [sV (.int .i64 ((getI a0 x10).len)), sL ((getI a0 x10).bits), sL ((getI a0 x10).sum), sV (.int .i64 ((getI a0 x10).at_))] row29 ?_
  obtain ⟨t28, wt28, h⟩ := bind_some' h
  refine st (cl fb94 (node_Good_ok (getI a0 x10) wt28) (fun v29 S30 e31 z32 => ?_))
  replace qa0 := qa0.up e31
  replace q23 := q23.up e31
  obtain rfl := z32
  refine vl (Y.not rfl) ?_
  refine nt hK27 ?_
  refine G.cond _ rfl (fun c33 => ?_) (fun c33 => ?_)
  ·replace h := ite_t c33 h
   refine sr (fun _ hK34 => ?_)
   refine an ?_
   refine nt hK34 ?_
   refine G.ret ?_
   obtain rfl := Option.some.inj h
   obtain rfl := hf1 _ rfl
   have h := ho13
   try dsimp only at h
   obtain rfl := Option.some.inj h
   exact hret _ _ _ _ 1 (l2 e9 e31) (.cons (.tmp rfl) .nil) rfl rfl
  replace h := ite_f c33 h
  refine sk hK26 ?_
  refine G.seq (fun _ hK35 => ?_)
  refine sr (fun _ hK36 => ?_)
  refine mv ?_
  refine vl (Y.eqI rfl rfl) ?_
  refine nt hK36 ?_
  refine G.cond _ rfl (fun c37 => ?_) (fun c37 => ?_)
  ·replace h := ite_t c37 h
   refine G.exit ?_
   refine GX.exit_then ?_
   refine GX.exit_block ?_
   refine GX.then hK17 ?_
   refine G.region ?_
   refine vl (Y.addI rfl rfl) ?_
   refine mv ?_
   refine GO.nil ?_
   obtain rfl := Option.some.inj h
   refine GX.keep [11, 10, 9, 0] rfl ?_
   refine GX.less 1 rfl ?_
   exact hK1 _ _ _ _ rfl ⟨(l2 e9 e31), rfl, rfl⟩
  replace h := ite_f c37 h
  refine sk hK35 ?_
  refine sr (fun _ hK38 => ?_)
  refine mv ?_
  refine mv ?_
  refine vl (Y.subI rfl rfl) ?_
  obtain ⟨g39, h⟩ := req_bind h
  obtain ⟨ad40, p41, z42, q43⟩ := Sls.at qa0 g39
  refine vl (Y.idxS rfl z42 rfl slc32 g39) ?_
  refine vl (Y.fieldAddr _ rfl fld29_0 rfl) ?_
  refine vl (Y.loadS [sV (.int .i64 ((getI a0 (wrap64 (x10 - (1 : Int)))).len)), sL ((getI a0 (wrap64 (x10 - (1 : Int)))).bits)] rfl (At.part q43 0 2 _ rfl rfl) row27 (by kernel_rfl)) ?_
  refine st (OS.alloc _ (by decide) zero27 (fun ad44 => ?_))
  refine sf 0 2 [sV (.int .i64 ((getI a0 (wrap64 (x10 - (1 : Int)))).len)), sL ((getI a0 (wrap64 (x10 - (1 : Int)))).bits)] (aggV_cells _) (oI (oL oN)) size27 ?_
  refine nt hK38 ?_
  refine G.block ?_
  refine G.seq (fun _ hK46 => ?_)
  refine sr (fun _ hK47 => ?_)
  refine lb 0 0 2 [sV (.int .i64 ((getI a0 (wrap64 (x10 - (1 : Int)))).len)), sL ((getI a0 (wrap64 (x10 - (1 : Int)))).bits)] row27 ?_
  refine vl (Y.fieldAddr 0 rfl fld29_0 rfl) ?_
  refine lb 1 0 2 [sV (.int .i64 ((getI a0 x10).len)), sL ((getI a0 x10).bits)] row27 ?_
  obtain ⟨t48, wt48, h⟩ := bind_some' h
  refine st (cl fb122 (bits_Prefix_Over_ok (⟨(getI a0 (wrap64 (x10 - (1 : Int)))).len, (getI a0 (wrap64 (x10 - (1 : Int)))).bits⟩ : Pfx) (⟨(getI a0 x10).len, (getI a0 x10).bits⟩ : Pfx) wt48) (fun v49 S50 e51 z52 => ?_))
  replace qa0 := qa0.up e51
  replace q23 := q23.up e51
  replace q43 := q43.up e51
  obtain rfl := z52
  refine an ?_
  refine nt hK47 ?_
  refine G.cond _ rfl (fun c53 => ?_) (fun c53 => ?_)
  ·replace h := ite_t c53 h
   refine sk hK46 ?_
   refine G.cond _ rfl (fun c54 => ?_) (fun c54 => ?_)
   ·replace h := ite_t c54 h
    refine sr (fun _ hK55 => ?_)
    refine an ?_
    refine nt hK55 ?_
    refine G.ret ?_
    obtain rfl := Option.some.inj h
    obtain rfl := hf1 _ rfl
    have h := ho13
    try dsimp only at h
    obtain rfl := Option.some.inj h
    exact hret _ _ _ _ 2 (l2 e9 (l2 e31 e51)) (.cons (.tmp rfl) .nil) rfl rfl
   replace h := ite_f c54 h
   refine G.skip ?_
   refine GX.normal_block ?_
   refine GX.normal_block ?_
   refine GX.then hK17 ?_
   refine G.region ?_
   refine vl (Y.addI rfl rfl) ?_
   refine mv ?_
   refine GO.nil ?_
   obtain rfl := Option.some.inj h
   refine GX.keep [11, 10, 9, 0] rfl ?_
   refine GX.less 2 rfl ?_
   exact hK1 _ _ _ _ rfl ⟨(l2 e9 (l2 e31 e51)), rfl, rfl⟩
  replace h := ite_f c53 h
  refine sr (fun _ hK56 => ?_)
  refine vl (Y.fieldAddr 0 rfl fld29_0 rfl) ?_
  refine lb 1 0 2 [sV (.int .i64 ((getI a0 x10).len)), sL ((getI a0 x10).bits)] row27 ?_
  refine lb 0 0 2 [sV (.int .i64 ((getI a0 (wrap64 (x10 - (1 : Int)))).len)), sL ((getI a0 (wrap64 (x10 - (1 : Int)))).bits)] row27 ?_
  obtain ⟨t57, wt57, h⟩ := bind_some' h
  refine st (cl fb122 (bits_Prefix_Over_ok (⟨(getI a0 x10).len, (getI a0 x10).bits⟩ : Pfx) (⟨(getI a0 (wrap64 (x10 - (1 : Int)))).len, (getI a0 (wrap64 (x10 - (1 : Int)))).bits⟩ : Pfx) wt57) (fun v58 S59 e60 z61 => ?_))
  replace qa0 := qa0.up e60
  replace q23 := q23.up e60
  replace q43 := q43.up e60
  obtain rfl := z61
  refine an ?_
  refine nt hK56 ?_
  refine G.cond _ rfl (fun c62 => ?_) (fun c62 => ?_)
  ·replace h := ite_t c62 h
   refine sk hK46 ?_
   refine G.cond _ rfl (fun c63 => ?_) (fun c63 => ?_)
   ·replace h := ite_t c63 h
    refine sr (fun _ hK64 => ?_)
    refine an ?_
    refine nt hK64 ?_
    refine G.ret ?_
    obtain rfl := Option.some.inj h
    obtain rfl := hf1 _ rfl
    have h := ho13
    try dsimp only at h
    obtain rfl := Option.some.inj h
    exact hret _ _ _ _ 2 (l2 e9 (l2 e31 (l2 e51 e60))) (.cons (.tmp rfl) .nil) rfl rfl
   replace h := ite_f c63 h
   refine G.skip ?_
   refine GX.normal_block ?_
   refine GX.normal_block ?_
   refine GX.then hK17 ?_
   refine G.region ?_
   refine vl (Y.addI rfl rfl) ?_
   refine mv ?_
   refine GO.nil ?_
   obtain rfl := Option.some.inj h
   refine GX.keep [11, 10, 9, 0] rfl ?_
   refine GX.less 2 rfl ?_
   exact hK1 _ _ _ _ rfl ⟨(l2 e9 (l2 e31 (l2 e51 e60))), rfl, rfl⟩
  replace h := ite_f c62 h
  refine G.region ?_
  refine vl (Y.fieldAddr 1 rfl fld27_1 rfl) ?_
  refine lb 0 1 1 [sL ((getI a0 (wrap64 (x10 - (1 : Int)))).bits)] row23 ?_
  refine vl (Y.fieldAddr 0 rfl fld29_0 rfl) ?_
  refine vl (Y.fieldAddr 1 rfl fld27_1 rfl) ?_
  refine lb 1 1 1 [sL ((getI a0 x10).bits)] row23 ?_
  obtain ⟨t65, wt65, h⟩ := bind_some' h
  refine st (cl fb121 (bits_Order_ok ((getI a0 (wrap64 (x10 - (1 : Int)))).bits) ((getI a0 x10).bits) wt65) (fun v66 S67 e68 z69 => ?_))
  replace qa0 := qa0.up e68
  replace q23 := q23.up e68
  replace q43 := q43.up e68
  obtain rfl := z69
  refine vl (Y.geI rfl rfl) ?_
  refine an ?_
  refine nt hK46 ?_
  refine G.cond _ rfl (fun c70 => ?_) (fun c70 => ?_)
  ·replace h := ite_t c70 h
   refine sr (fun _ hK71 => ?_)
   refine an ?_
   refine nt hK71 ?_
   refine G.ret ?_
   obtain rfl := Option.some.inj h
   obtain rfl := hf1 _ rfl
   have h := ho13
   try dsimp only at h
   obtain rfl := Option.some.inj h
   exact hret _ _ _ _ 2 (l2 e9 (l2 e31 (l2 e51 (l2 e60 e68)))) (.cons (.tmp rfl) .nil) rfl rfl
  replace h := ite_f c70 h
  refine G.skip ?_
  refine GX.normal_block ?_
  refine GX.normal_block ?_
  refine GX.then hK17 ?_
  refine G.region ?_
  refine vl (Y.addI rfl rfl) ?_
  refine mv ?_
  refine GO.nil ?_
  obtain rfl := Option.some.inj h
  refine GX.keep [11, 10, 9, 0] rfl ?_
  refine GX.less 2 rfl ?_
  exact hK1 _ _ _ _ rfl ⟨(l2 e9 (l2 e31 (l2 e51 (l2 e60 e68)))), rfl, rfl⟩
 replace h := ite_f c16 h
 refine G.exit ?_
 refine GX.exit_then ?_
 obtain rfl := Option.some.inj h
 refine GX.keep [] rfl ?_
 exact hx11 _ _ _ ⟨_, e9, (hf1 _ rfl).symm, rfl, rfl⟩

/- chirograph/patch.Sorted$1 -/
def patch_Sorted_1  (a0 : Item) (a1 : Item) : Option Int :=
 ((bits_Order a0.bits a1.bits).bind fun t7 => some t7)

theorem patch_Sorted_1_ok {S : Hp} (a0 : Item) (a1 : Item) {r : Int} (h : patch_Sorted_1 a0 a1 = some r) : Fn Tryz.prog 184 [aggV [sV (.int .i64 a0.len), sL a0.bits, sL a0.sum, sV (.int .i64 a0.at_)], aggV [sV (.int .i64 a1.len), sL a1.bits, sL a1.sum, sV (.int .i64 a1.at_)]] S (fun v S' => v = .int .i64 r) := by
 unfold patch_Sorted_1 at h
 refine fo [.tmp 4] 12 Tryz.func184 Tryz.ntmps184 (fun o F Q hQ hN hret => ?_)
 refine sr (fun _ hK1 => ?_)
 refine st (OS.boxA (by decide) rfl (fun ad2 => ?_))
 refine st (OS.boxA (by decide) rfl (fun ad4 => ?_))
 refine an ?_
 refine nt hK1 ?_
 refine sr (fun _ hK6 => ?_)
 refine vl (Y.fieldAddr 0 rfl fld29_0 rfl) ?_
 refine vl (Y.fieldAddr 1 rfl fld27_1 rfl) ?_
 refine lb 1 1 1 [sL a0.bits] row23 ?_
 refine vl (Y.fieldAddr 0 rfl fld29_0 rfl) ?_
 refine vl (Y.fieldAddr 1 rfl fld27_1 rfl) ?_
 refine lb 0 1 1 [sL a1.bits] row23 ?_
 obtain ⟨t7, wt7, h⟩ := bind_some' h
 refine st (cl fb121 (bits_Order_ok a0.bits a1.bits wt7) (fun v8 S9 e10 z11 => ?_))
 obtain rfl := z11
 refine an ?_
 refine nt hK6 ?_
 refine G.ret ?_
 obtain rfl := Option.some.inj h
 exact hret _ _ _ _ 2 e10 (.cons (.tmp rfl) .nil) rfl rfl

/- chirograph/patch.Sorted -/
def patch_Sorted (k : Nat) (a0 : (List Item)) : Option (List Item) :=
 ((slices_Clone_Item a0).bind fun t3 => ((slices_SortStableFunc_Item k t3 (fun x0₁ x1₁ => patch_Sorted_1 x0₁ x1₁)).bind fun t10 => some t10))

theorem patch_Sorted_ok {S : Hp} (k : Nat) (a0 : (List Item)) {va0 : Value} (qa0 : Sls S va0 a0) {r : (List Item)} (h : patch_Sorted k a0 = some r) : Fn Tryz.prog 123 [va0] S (fun v S' => Sls S' v r) := by
 unfold patch_Sorted at h
 refine fo [.tmp 2] 9 Tryz.func123 Tryz.ntmps123 (fun o F Q hQ hN hret => ?_)
 refine sr (fun _ hK1 => ?_)
 refine an ?_
 refine nt hK1 ?_
 refine sr (fun _ hK2 => ?_)
 refine mv ?_
 obtain ⟨t3, wt3, h⟩ := bind_some' h
 refine st (OS.callN _ (by decide) rfl fb182 (slices_Clone_Item_ok a0 qa0 wt3) (fun v4 S5 _ e6 z7 => ?_))
 replace qa0 := qa0.up e6
 obtain rfl := z7
 refine an ?_
 refine nt hK2 ?_
 refine sr (fun _ hK9 => ?_)
 refine mv ?_
 obtain ⟨t10, wt10, h⟩ := bind_some' h
 refine st (OS.callP 0 _ (by decide) rfl fb183 rfl (slices_SortStableFunc_Item_ok k (fv1 := 184) (cp1 := []) t3 (fun x0₁ x1₁ => patch_Sorted_1 x0₁ x1₁) fb184 (fun S₁ e₁ x0₁ x1₁ r₁ h₁ => patch_Sorted_1_ok x0₁ x1₁ h₁) wt10) (fun v11 S12 _ e13 z14 => ?_))
 replace qa0 := qa0.up e13
 obtain ⟨rfl, rfl⟩ := z14
 refine nt hK9 ?_
 refine sr (fun _ hK15 => ?_)
 refine mv ?_
 refine an ?_
 refine nt hK15 ?_
 refine G.ret ?_
 refine GX.shareR 0 rfl (fun S16 e17 q18 => ?_)
 replace qa0 := qa0.up e17
 obtain rfl := Option.some.inj h
 exact hret _ _ _ _ 1 (l2 e6 (l2 e13 e17)) (.cons (.tmp rfl) .nil) q18 rfl

/- chirograph/patch.Of -/
def patch_Of_s1 (a0 : (List Leaf)) : (Int × (List Item)) → Option ((Int × (List Item)) ⊕ (Int × (List Item)))
 | (x38, x39) => (if (decide (x38 < (lenI a0))) = true then ((req ((0 : Int) ≤ x38 ∧ x38 < lenI a0)).bind fun _ => ((node_Leaf_Item (getI a0 x38)).bind fun t56 => ((req (List.length x39 + List.length ([t56] : List Item) ≤ LIM)).bind fun _ => some (.inl ((wrap64 (x38 + (1 : Int))), (x39 ++ ([t56] : List Item))))))) else some (.inr (x38, x39)))

def patch_Of (k : Nat) (a0 : (List Leaf)) : Option (List Item) :=
 ((iter (patch_Of_s1 a0) ((0 : Int), ([] : List Item))).bind fun b42 => (match b42 with | (x38, x39) => ((patch_Sorted k x39).bind fun t71 => some t71)))

theorem patch_Of_ok {S : Hp} (k : Nat) (a0 : (List Leaf)) {va0 : Value} (qa0 : Sls S va0 a0) {r : (List Item)} (h : patch_Of k a0 = some r) : Fn Tryz.prog 44 [va0] S (fun v S' => Sls S' v r) := by
 unfold patch_Of at h
 refine fo [.tmp 2] 20 Tryz.func44 Tryz.ntmps44 (fun o F Q hQ hN hret => ?_)
 refine sr (fun _ hK1 => ?_)
 refine an ?_
 refine nt hK1 ?_
 refine sr (fun _ hK2 => ?_)
 refine an ?_
 refine nt hK2 ?_
 refine G.seq (fun _ hK3 => ?_)
 refine sr (fun _ hK4 => ?_)
 refine mv ?_
 refine vl (Y.lenS rfl qa0 slc35) ?_
 refine mv ?_
 refine nt hK4 ?_
 refine G.block ?_
 refine G.nilRow (α := Item) ?_
 obtain ⟨b42, wb42, ho43⟩ := bind_some' h
 refine G.keep [8, 7, 6, 3] rfl ?_
 refine G.loopK (patch_Of_s1 a0) (fun s₀ E' S' L' => match s₀ with | (x38, x39) => S.le S' ∧ ∃ (v40 : Value), E' = [(8, .int .i64 x38), (7, .int .i64 (lenI a0)), (6, va0), (3, v40)] ∧ Rw v40 x39 :: F = L') b42 0 (fun E₀ S₀ L₀ => ∃ (x38 : Int) (x39 : (List Item)) (v40 : Value), S.le S₀ ∧ b42 = (x38, x39) ∧ E₀ = [(3, v40)] ∧ Rw v40 x39 :: F = L₀) wb42 ?_ ?_ ?_
 ·rintro _ S65 _ ⟨x38, x39, v40, e66, rfl, rfl, rfl⟩
  have h := ho43; clear ho43
  try dsimp only at h
  refine GX.exit_block ?_
  refine GX.then hK3 ?_
  refine sr (fun _ hK67 => ?_)
  refine mv ?_
  obtain ⟨t71, wt71, h⟩ := bind_some' h
  refine GO.shareR 0 rfl (fun S68 e69 q70 => ?_)
  refine st (cl fb123 (patch_Sorted_ok k x39 q70 wt71) (fun v72 S73 e74 z75 => ?_))
  replace q70 := q70.up e74
  have q77 := z75
  refine an ?_
  refine nt hK67 ?_
  refine G.ret ?_
  obtain rfl := Option.some.inj h
  exact hret _ _ _ _ 1 (l2 e66 (l2 e69 e74)) (.cons (.tmp rfl) .nil) q77 rfl
 ·exact ⟨Hp.le_refl _, (.slice none 0 0), rfl, rfl⟩
 rintro ⟨x38, x39⟩ _ S36 _ ⟨e37, v40, rfl, rfl⟩ out1 h hf1 K1 hK1 hx41
 rw [patch_Of_s1] at h
 replace qa0 := qa0.up e37
 refine sr (fun _ hK44 => ?_)
 refine vl (Y.ltI rfl rfl) ?_
 refine nt hK44 ?_
 refine G.seq (fun _ hK45 => ?_)
 refine G.cond _ rfl (fun c46 => ?_) (fun c46 => ?_)
 ·replace h := ite_t c46 h
  refine sk hK45 ?_
  refine G.seq (fun _ hK47 => ?_)
  refine G.block ?_
  refine sr (fun _ hK48 => ?_)
  obtain ⟨g49, h⟩ := req_bind h
  obtain ⟨ad50, p51, z52, q53⟩ := Sls.at qa0 g49
  refine vl (Y.idxS rfl z52 rfl slc35 g49) ?_
  refine vl (Y.loadS [sL ((getI a0 x38).label), sL ((getI a0 x38).value), sV (.int .i64 ((getI a0 x38).at_))] rfl (At.part q53 0 3 _ rfl rfl) row25 (by kernel_rfl)) ?_
  refine st (OS.alloc _ (by decide) zero25 (fun ad54 => ?_))
  refine sf 0 3 [sL ((getI a0 x38).label), sL ((getI a0 x38).value), sV (.int .i64 ((getI a0 x38).at_))] (aggV_cells _) (oL (oL (oI oN))) size25 ?_
  refine nt hK48 ?_
  refine G.region ?_
  refine mv ?_
  refine lb 0 0 3 [sL ((getI a0 x38).label), sL ((getI a0 x38).value), sV (.int .i64 ((getI a0 x38).at_))] row25 ?_
  obtain ⟨t56, wt56, h⟩ := bind_some' h
  refine st (cl fb53 (node_Leaf_Item_ok (getI a0 x38) wt56) (fun v57 S58 e59 z60 => ?_))
  replace qa0 := qa0.up e59
  replace q53 := q53.up e59
  obtain rfl := z60
  refine bs ([t56] : List Item) el32 (fun v61 => ?_)
  obtain ⟨g63, h⟩ := req_bind h
  refine st (OS.append (xs := x39) (ys := ([t56] : List Item)) 2 (by decide) rfl rfl rfl (Rw.src (k := 0) rfl) el32 src32 g63 (fun v64 => ?_))
  refine an ?_
  refine GO.nil ?_
  refine GX.normal_block ?_
  refine GX.then hK47 ?_
  refine G.region ?_
  refine vl (Y.addI rfl rfl) ?_
  refine mv ?_
  refine GO.nil ?_
  obtain rfl := Option.some.inj h
  refine GX.keep [8, 7, 6, 3] rfl ?_
  refine GX.less 2 rfl ?_
  exact hK1 _ _ _ _ rfl ⟨(l2 e37 e59), v64, rfl, rfl⟩
 replace h := ite_f c46 h
 refine G.exit ?_
 refine GX.exit_then ?_
 obtain rfl := Option.some.inj h
 refine GX.keep [3] rfl ?_
 exact hx41 _ _ _ ⟨_, _, _, e37, (hf1 _ rfl).symm, rfl, rfl⟩

/- chirograph/patch.join$1 -/
def patch_join_1  (a0 : Item) (a1 : Int) : Option Bool :=
 ((bits_Bit a0.bits a1).bind fun t5 => some (t5 == (1 : Int)))

theorem patch_join_1_ok {S : Hp} (a0 : Item) (a1 : Int) {b1 o1 : Nat} (qp1 : At S b1 o1 (cells [sV (.int .i64 a1)])) {r : Bool} (h : patch_join_1 a0 a1 = some r) : Fn Tryz.prog 189 [aggV [sV (.int .i64 a0.len), sL a0.bits, sL a0.sum, sV (.int .i64 a0.at_)], .pointer (some ⟨b1, o1, none⟩)] S (fun v S' => v = .bool r) := by
 unfold patch_join_1 at h
 refine fo [.tmp 3] 10 Tryz.func189 Tryz.ntmps189 (fun o F Q hQ hN hret => ?_)
 refine sr (fun _ hK1 => ?_)
 refine st (OS.boxA (by decide) rfl (fun ad2 => ?_))
 refine an ?_
 refine nt hK1 ?_
 refine sr (fun _ hK4 => ?_)
 refine vl (Y.fieldAddr 0 rfl fld29_0 rfl) ?_
 refine vl (Y.fieldAddr 1 rfl fld27_1 rfl) ?_
 refine lb 0 1 1 [sL a0.bits] row23 ?_
 refine vl (Y.loadSV _ rfl (At.val (At.part qp1 0 1 [sV (.int .i64 a1)] rfl rfl)) one3) ?_
 obtain ⟨t5, wt5, h⟩ := bind_some' h
 refine st (cl fb48 (bits_Bit_ok a0.bits a1 wt5) (fun v6 S7 e8 z9 => ?_))
 replace qp1 := qp1.up e8
 obtain rfl := z9
 refine vl (Y.eqI rfl rfl) ?_
 refine an ?_
 refine nt hK4 ?_
 refine G.ret ?_
 obtain rfl := Option.some.inj h
 exact hret _ _ _ _ 1 e8 (.cons (.tmp rfl) .nil) rfl rfl

/- chirograph/patch.join -/
def patch_join : Nat → (List Item) → Option Item
 | 0 => fun _ => none
 | k + 1 => fun a0 =>
 (if ((lenI a0) == (1 : Int)) = true then ((req ((0 : Int) ≤ (0 : Int) ∧ (0 : Int) < lenI a0)).bind fun _ => some (getI a0 (0 : Int))) else ((req ((0 : Int) ≤ (0 : Int) ∧ (0 : Int) < lenI a0)).bind fun _ => ((req ((0 : Int) ≤ (wrap64 ((lenI a0) - (1 : Int))) ∧ (wrap64 ((lenI a0) - (1 : Int))) < lenI a0)).bind fun _ => ((bits_Common ((getI a0 (0 : Int)).bits) ((getI a0 (wrap64 ((lenI a0) - (1 : Int)))).bits)).bind fun t25 => ((slices_IndexFunc_Item a0 (fun x0₁ => patch_join_1 x0₁ t25)).bind fun t59 => ((req ((0 : Int) ≤ 0 ∧ 0 ≤ t59 ∧ t59 ≤ lenI a0)).bind fun _ => ((patch_join k (cutL a0 0 t59)).bind fun t69 => ((req ((0 : Int) ≤ t59 ∧ t59 ≤ (lenI a0) ∧ (lenI a0) ≤ lenI a0)).bind fun _ => ((patch_join k (cutL a0 t59 (lenI a0))).bind fun t80 => ((node_Inner_Item (⟨t69, t80⟩ : Inner)).bind fun t89 => some t89))))))))))

theorem patch_join_ok (k : Nat) : ∀ {S : Hp} (a0 : (List Item)) {va0 : Value} (qa0 : Sls S va0 a0) {r : Item} (h : patch_join k a0 = some r), Fn Tryz.prog 143 [va0] S (fun v S' => v = aggV [sV (.int .i64 r.len), sL r.bits, sL r.sum, sV (.int .i64 r.at_)]) := by
 induction k with
 | zero => intro S; intros; rename_i h; simp [patch_join] at h
 | succ k ih =>
 intro S a0 va0 qa0 r h
 rw [patch_join] at h
 replace ih := @ih
 refine fo [.cell 2 29] 38 Tryz.func143 Tryz.ntmps143 (fun o F Q hQ hN hret => ?_)
 refine sr (fun _ hK1 => ?_)
 refine st (OS.alloc _ (by decide) zero29 (fun ad2 => ?_))
 refine nt hK1 ?_
 refine G.seq (fun _ hK4 => ?_)
 refine sr (fun _ hK5 => ?_)
 refine mv ?_
 refine vl (Y.lenS rfl qa0 slc32) ?_
 refine vl (Y.eqI rfl rfl) ?_
 refine nt hK5 ?_
 refine G.cond _ rfl (fun c6 => ?_) (fun c6 => ?_)
 ·replace h := ite_t c6 h
  refine sr (fun _ hK7 => ?_)
  refine mv ?_
  obtain ⟨g8, h⟩ := req_bind h
  obtain ⟨ad9, p10, z11, q12⟩ := Sls.at qa0 g8
  refine vl (Y.idxS rfl z11 rfl slc32 g8) ?_
  refine vl (Y.loadS [sV (.int .i64 ((getI a0 (0 : Int)).len)), sL ((getI a0 (0 : Int)).bits), sL ((getI a0 (0 : Int)).sum), sV (.int .i64 ((getI a0 (0 : Int)).at_))] rfl (At.part q12 0 4 _ rfl rfl) row29 (by kernel_rfl)) ?_
  refine sf 0 4 [sV (.int .i64 ((getI a0 (0 : Int)).len)), sL ((getI a0 (0 : Int)).bits), sL ((getI a0 (0 : Int)).sum), sV (.int .i64 ((getI a0 (0 : Int)).at_))] (aggV_cells _) (oI (oL (oL (oI oN)))) size29 ?_
  refine nt hK7 ?_
  refine G.ret ?_
  obtain rfl := Option.some.inj h
  exact hret _ _ _ _ 1 l0 (.cons (.row (k := 0) rfl rfl row29 (by kernel_rfl)) .nil) rfl rfl
 replace h := ite_f c6 h
 refine sk hK4 ?_
 refine G.seq (fun _ hK13 => ?_)
 obtain ⟨g15, h⟩ := req_bind h
 obtain ⟨ad16, p17, z18, q19⟩ := Sls.at qa0 g15
 obtain ⟨g20, h⟩ := req_bind h
 obtain ⟨ad21, p22, z23, q24⟩ := Sls.at qa0 g20
 obtain ⟨t25, wt25, h⟩ := bind_some' h
 refine G.cut (fun E₀ S₀ L₀ => ∃ (ad33 : Nat), S.le S₀ ∧ E₀ = [(3, .pointer (some ⟨ad33, 0, none⟩)), (2, .pointer (some ⟨ad2, 0, none⟩)), (0, va0)] ∧ Blk ad33 [sV (.int .i64 t25)] :: Blk ad2 [sV (.int .i64 0), sL zL, sL zL, sV (.int .i64 0)] :: F = L₀) (fun K14 hK14 => ?_) ?_
 ·refine G.drawN 16 mixed (by kernel_rfl) ?_
  refine tn 0 rfl hQ (fun _ _ _ => Y.move rfl) ?_
  refine tn 1 rfl hQ (fun _ _ _ => Y.idxS rfl z18 rfl slc32 g15) ?_
  refine tn 2 rfl hQ (fun _ _ _ => Y.fieldAddr _ rfl fld29_0 rfl) ?_
  refine tn 3 rfl hQ (fun _ _ _ => Y.fieldAddr _ rfl fld27_1 rfl) ?_
  refine tn 4 rfl hQ (fun S₀ X₀ e₀ => Y.loadS [sL ((getI a0 (0 : Int)).bits)] rfl (At.part (q19.up e₀) 1 1 _ rfl rfl) row23 (by kernel_rfl)) ?_
  refine tn 5 rfl hQ (fun _ _ _ => Y.move rfl) ?_
  refine tn 6 rfl hQ (fun _ _ _ => Y.move rfl) ?_
  refine tn 7 rfl hQ (fun S₀ X₀ e₀ => Y.lenS rfl (qa0.up e₀) slc32) ?_
  refine tn 8 rfl hQ (fun _ _ _ => Y.subI rfl rfl) ?_
  refine tn 9 rfl hQ (fun _ _ _ => Y.idxS rfl z23 rfl slc32 g20) ?_
  refine tn 10 rfl hQ (fun _ _ _ => Y.fieldAddr _ rfl fld29_0 rfl) ?_
  refine tn 11 rfl hQ (fun _ _ _ => Y.fieldAddr _ rfl fld27_1 rfl) ?_
  refine tn 12 rfl hQ (fun S₀ X₀ e₀ => Y.loadS [sL ((getI a0 (wrap64 ((lenI a0) - (1 : Int)))).bits)] rfl (At.part (q24.up e₀) 1 1 _ rfl rfl) row23 (by kernel_rfl)) ?_
  refine GDr.any [13, 14] (by kernel_rfl) rfl (AllR.two ?_ ?_)
  ·refine n1 rfl (cl fb124 (bits_Common_ok ((getI a0 (0 : Int)).bits) ((getI a0 (wrap64 ((lenI a0) - (1 : Int)))).bits) wt25) (fun v35 S36 e37 z38 => ⟨⟨[], .refl, e37⟩, ?_⟩))
   have q39 := qa0.up e37
   have q40 := q19.up e37
   have q41 := q24.up e37
   obtain rfl := z38
   refine g1 14 ?_
   refine n1 rfl (OS.alloc _ (by decide) zero3 (fun ad42 => ⟨⟨[_], (.same .refl), e37⟩, ?_⟩))
   refine g1 15 ?_
   refine n1 rfl (OS.store 0 0 1 [sV (.int .i64 t25)] (r := [sV (.int .i64 t25)]) rfl rfl rfl (oI oN) rfl rfl size3 (by kernel_rfl) (by kernel_rfl) (by kernel_rfl) ⟨⟨[_], (.same .refl), e37⟩, ?_⟩)
   refine dn ?_
   refine GX.keep [3, 2, 0] rfl ?_
   exact hK14 _ _ _ ⟨ad42, e37, rfl, rfl⟩
  refine n1 rfl (OS.alloc _ (by decide) zero3 (fun ad44 => ⟨⟨[_], (.same .refl), l0⟩, ?_⟩))
  refine g1 13 ?_
  refine n1 rfl (cl fb124 (bits_Common_ok ((getI a0 (0 : Int)).bits) ((getI a0 (wrap64 ((lenI a0) - (1 : Int)))).bits) wt25) (fun v46 S47 e48 z49 => ⟨⟨[_], (.same .refl), e48⟩, ?_⟩))
  have q50 := qa0.up e48
  have q51 := q19.up e48
  have q52 := q24.up e48
  obtain rfl := z49
  refine g1 15 ?_
  refine n1 rfl (OS.store 0 0 1 [sV (.int .i64 t25)] (r := [sV (.int .i64 t25)]) rfl rfl rfl (oI oN) rfl rfl size3 (by kernel_rfl) (by kernel_rfl) (by kernel_rfl) ⟨⟨[_], (.same .refl), e48⟩, ?_⟩)
  refine dn ?_
  refine GX.keep [3, 2, 0] rfl ?_
  exact hK14 _ _ _ ⟨ad44, e48, rfl, rfl⟩
 rintro _ S53 _ ⟨ad33, e54, rfl, rfl⟩
 replace qa0 := qa0.up e54
 refine GX.then hK13 ?_
 refine sr (fun _ hK55 => ?_)
 refine mv ?_
 refine GO.shareB 0 rfl (fun S56 e57 q58 => ?_)
 replace qa0 := qa0.up e57
 refine vl (Y.makeFunc rfl) ?_
 obtain ⟨t59, wt59, h⟩ := bind_some' h
 refine st (cl fb188 (slices_IndexFunc_Item_ok (fv1 := 189) (cp1 := [.pointer (some ⟨ad33, 0, none⟩)]) a0 (fun x0₁ => patch_join_1 x0₁ t25) qa0 fb189 (fun S₁ e₁ x0₁ r₁ h₁ => patch_join_1_ok x0₁ t25 (q58.up e₁) h₁) wt59) (fun v60 S61 e62 z63 => ?_))
 replace q58 := q58.up e62
 replace qa0 := qa0.up e62
 obtain rfl := z63
 refine an ?_
 refine nt hK55 ?_
 refine G.seq (fun _ hK64 => ?_)
 obtain ⟨g66, h⟩ := req_bind h
 obtain ⟨t69, wt69, h⟩ := bind_some' h
 obtain ⟨g77, h⟩ := req_bind h
 obtain ⟨t80, wt80, h⟩ := bind_some' h
 obtain ⟨t89, wt89, h⟩ := bind_some' h
 refine G.cut (fun E₀ S₀ L₀ => S61.le S₀ ∧ E₀ = [(2, .pointer (some ⟨ad2, 0, none⟩))] ∧ (fun _ => True) :: Blk ad2 [sV (.int .i64 t89.len), sL t89.bits, sL t89.sum, sV (.int .i64 t89.at_)] :: F = L₀) (fun K65 hK65 => ?_) ?_
 ·refine G.drawS 10 _ ((fun _ => True) :: (fun _ => True) :: F) mixed .refl (by kernel_rfl) ?_
  refine tx 0 rfl (.same (.lose .refl)) hQ (fun _ _ _ => Y.move rfl) ?_
  refine tx 1 rfl (.same (.lose .refl)) hQ (fun _ _ _ => Y.move rfl) ?_
  refine tx 4 rfl (.same (.lose .refl)) hQ (fun _ _ _ => Y.move rfl) ?_
  refine tx 5 rfl (.same (.lose .refl)) hQ (fun _ _ _ => Y.move rfl) ?_
  refine GDr.any [2, 6] (by kernel_rfl) rfl (AllR.two ?_ ?_)
  ·refine n1 rfl (OS.sliceS 0 t59 none (some (.int .i64 t59)) (by decide) rfl qa0 slc32 rfl rfl (.inl ⟨rfl, rfl⟩) (.inr ⟨_, rfl⟩) g66 (fun v98 q99 => ⟨⟨[], .refl, l0⟩, ?_⟩))
   refine GDr.any [3, 6] (by kernel_rfl) rfl (AllR.two ?_ ?_)
   ·refine n1 rfl (cl fb143 (ih (cutL a0 0 t59) q99 wt69) (fun v100 S101 e102 z103 => ⟨⟨[], .refl, e102⟩, ?_⟩))
    have q104 := q58.up e102
    have q105 := qa0.up e102
    have q106 := q99.up e102
    obtain rfl := z103
    refine g1 6 ?_
    refine n1 rfl (OS.sliceS t59 (lenI a0) (some (.int .i64 t59)) none (by decide) rfl q105 slc32 rfl rfl (.inr ⟨_, rfl⟩) (.inl ⟨rfl, rfl⟩) g77 (fun v107 q108 => ⟨⟨[], .refl, e102⟩, ?_⟩))
    refine g1 7 ?_
    refine n1 rfl (cl fb143 (ih (cutL a0 t59 (lenI a0)) q108 wt80) (fun v109 S110 e111 z112 => ⟨⟨[], .refl, (l2 e102 e111)⟩, ?_⟩))
    have q113 := q104.up e111
    have q114 := q105.up e111
    have q115 := q106.up e111
    have q116 := q108.up e111
    obtain rfl := z112
    refine tx 8 rfl (.same (.lose .refl)) hQ (fun _ _ _ => Y.buildE _ [sV (.int .i64 t69.len), sL t69.bits, sL t69.sum, sV (.int .i64 t69.at_), sV (.int .i64 t80.len), sL t80.bits, sL t80.sum, sV (.int .i64 t80.at_)] strt31 zero31 rfl (.cons 0 4 [sV (.int .i64 t69.len), sL t69.bits, sL t69.sum, sV (.int .i64 t69.at_)] rfl (aggV_cells _) rfl rfl rfl (.cons 4 4 [sV (.int .i64 t80.len), sL t80.bits, sL t80.sum, sV (.int .i64 t80.at_)] rfl (aggV_cells _) rfl rfl rfl .nil))) ?_
    refine g1 9 ?_
    refine n1 rfl (cl fb46 (node_Inner_Item_ok (⟨t69, t80⟩ : Inner) wt89) (fun v117 S118 e119 z120 => ⟨⟨[], .refl, (l2 e102 (l2 e111 e119))⟩, ?_⟩))
    have q121 := q113.up e119
    have q122 := q114.up e119
    have q123 := q115.up e119
    have q124 := q116.up e119
    obtain rfl := z120
    refine g1 10 ?_
    refine n2 rfl (OS.store 1 0 4 [sV (.int .i64 t89.len), sL t89.bits, sL t89.sum, sV (.int .i64 t89.at_)] (r := [sV (.int .i64 t89.len), sL t89.bits, sL t89.sum, sV (.int .i64 t89.at_)]) rfl rfl (aggV_cells _) (oI (oL (oL (oI oN)))) rfl rfl size29 (by kernel_rfl) (by kernel_rfl) (by kernel_rfl) ⟨⟨[], (.same (.lose .refl)), (l2 e102 (l2 e111 e119))⟩, ?_⟩)
    refine dn ?_
    refine GX.keep [2] rfl ?_
    exact hK65 _ _ _ ⟨(l2 e102 (l2 e111 e119)), rfl, rfl⟩
   refine n1 rfl (OS.sliceS t59 (lenI a0) (some (.int .i64 t59)) none (by decide) rfl qa0 slc32 rfl rfl (.inr ⟨_, rfl⟩) (.inl ⟨rfl, rfl⟩) g77 (fun v125 q126 => ⟨⟨[], .refl, l0⟩, ?_⟩))
   refine g1 3 ?_
   refine n1 rfl (cl fb143 (ih (cutL a0 0 t59) q99 wt69) (fun v127 S128 e129 z130 => ⟨⟨[], .refl, e129⟩, ?_⟩))
   have q131 := q58.up e129
   have q132 := qa0.up e129
   have q133 := q99.up e129
   have q134 := q126.up e129
   obtain rfl := z130
   refine g1 7 ?_
   refine n1 rfl (cl fb143 (ih (cutL a0 t59 (lenI a0)) q134 wt80) (fun v135 S136 e137 z138 => ⟨⟨[], .refl, (l2 e129 e137)⟩, ?_⟩))
   have q139 := q131.up e137
   have q140 := q132.up e137
   have q141 := q133.up e137
   have q142 := q134.up e137
   obtain rfl := z138
   refine tx 8 rfl (.same (.lose .refl)) hQ (fun _ _ _ => Y.buildE _ [sV (.int .i64 t69.len), sL t69.bits, sL t69.sum, sV (.int .i64 t69.at_), sV (.int .i64 t80.len), sL t80.bits, sL t80.sum, sV (.int .i64 t80.at_)] strt31 zero31 rfl (.cons 0 4 [sV (.int .i64 t69.len), sL t69.bits, sL t69.sum, sV (.int .i64 t69.at_)] rfl (aggV_cells _) rfl rfl rfl (.cons 4 4 [sV (.int .i64 t80.len), sL t80.bits, sL t80.sum, sV (.int .i64 t80.at_)] rfl (aggV_cells _) rfl rfl rfl .nil))) ?_
   refine g1 9 ?_
   refine n1 rfl (cl fb46 (node_Inner_Item_ok (⟨t69, t80⟩ : Inner) wt89) (fun v143 S144 e145 z146 => ⟨⟨[], .refl, (l2 e129 (l2 e137 e145))⟩, ?_⟩))
   have q147 := q139.up e145
   have q148 := q140.up e145
   have q149 := q141.up e145
   have q150 := q142.up e145
   obtain rfl := z146
   refine g1 10 ?_
   refine n2 rfl (OS.store 1 0 4 [sV (.int .i64 t89.len), sL t89.bits, sL t89.sum, sV (.int .i64 t89.at_)] (r := [sV (.int .i64 t89.len), sL t89.bits, sL t89.sum, sV (.int .i64 t89.at_)]) rfl rfl (aggV_cells _) (oI (oL (oL (oI oN)))) rfl rfl size29 (by kernel_rfl) (by kernel_rfl) (by kernel_rfl) ⟨⟨[], (.same (.lose .refl)), (l2 e129 (l2 e137 e145))⟩, ?_⟩)
   refine dn ?_
   refine GX.keep [2] rfl ?_
   exact hK65 _ _ _ ⟨(l2 e129 (l2 e137 e145)), rfl, rfl⟩
  refine n1 rfl (OS.sliceS t59 (lenI a0) (some (.int .i64 t59)) none (by decide) rfl qa0 slc32 rfl rfl (.inr ⟨_, rfl⟩) (.inl ⟨rfl, rfl⟩) g77 (fun v151 q152 => ⟨⟨[], .refl, l0⟩, ?_⟩))
  refine g1 2 ?_
  refine n1 rfl (OS.sliceS 0 t59 none (some (.int .i64 t59)) (by decide) rfl qa0 slc32 rfl rfl (.inl ⟨rfl, rfl⟩) (.inr ⟨_, rfl⟩) g66 (fun v153 q154 => ⟨⟨[], .refl, l0⟩, ?_⟩))
  refine g1 3 ?_
  refine n1 rfl (cl fb143 (ih (cutL a0 0 t59) q154 wt69) (fun v155 S156 e157 z158 => ⟨⟨[], .refl, e157⟩, ?_⟩))
  have q159 := q58.up e157
  have q160 := qa0.up e157
  have q161 := q152.up e157
  have q162 := q154.up e157
  obtain rfl := z158
  refine g1 7 ?_
  refine n1 rfl (cl fb143 (ih (cutL a0 t59 (lenI a0)) q161 wt80) (fun v163 S164 e165 z166 => ⟨⟨[], .refl, (l2 e157 e165)⟩, ?_⟩))
  have q167 := q159.up e165
  have q168 := q160.up e165
  have q169 := q161.up e165
  have q170 := q162.up e165
  obtain rfl := z166
  refine tx 8 rfl (.same (.lose .refl)) hQ (fun _ _ _ => Y.buildE _ [sV (.int .i64 t69.len), sL t69.bits, sL t69.sum, sV (.int .i64 t69.at_), sV (.int .i64 t80.len), sL t80.bits, sL t80.sum, sV (.int .i64 t80.at_)] strt31 zero31 rfl (.cons 0 4 [sV (.int .i64 t69.len), sL t69.bits, sL t69.sum, sV (.int .i64 t69.at_)] rfl (aggV_cells _) rfl rfl rfl (.cons 4 4 [sV (.int .i64 t80.len), sL t80.bits, sL t80.sum, sV (.int .i64 t80.at_)] rfl (aggV_cells _) rfl rfl rfl .nil))) ?_
  refine g1 9 ?_
  refine n1 rfl (cl fb46 (node_Inner_Item_ok (⟨t69, t80⟩ : Inner) wt89) (fun v171 S172 e173 z174 => ⟨⟨[], .refl, (l2 e157 (l2 e165 e173))⟩, ?_⟩))
  have q175 := q167.up e173
  have q176 := q168.up e173
  have q177 := q169.up e173
  have q178 := q170.up e173
  obtain rfl := z174
  refine g1 10 ?_
  refine n2 rfl (OS.store 1 0 4 [sV (.int .i64 t89.len), sL t89.bits, sL t89.sum, sV (.int .i64 t89.at_)] (r := [sV (.int .i64 t89.len), sL t89.bits, sL t89.sum, sV (.int .i64 t89.at_)]) rfl rfl (aggV_cells _) (oI (oL (oL (oI oN)))) rfl rfl size29 (by kernel_rfl) (by kernel_rfl) (by kernel_rfl) ⟨⟨[], (.same (.lose .refl)), (l2 e157 (l2 e165 e173))⟩, ?_⟩)
  refine dn ?_
  refine GX.keep [2] rfl ?_
  exact hK65 _ _ _ ⟨(l2 e157 (l2 e165 e173)), rfl, rfl⟩
 rintro _ S179 _ ⟨e180, rfl, rfl⟩
 refine GX.then hK64 ?_
 refine G.ret ?_
 obtain rfl := Option.some.inj h
 exact hret _ _ _ _ 2 (l2 e54 (l2 e57 (l2 e62 e180))) (.cons (.row (k := 1) rfl rfl row29 (by kernel_rfl)) .nil) rfl rfl

/- chirograph/patch.Top -/
def patch_Top (k : Nat) (a0 : (List Item)) : Option (Lab × Int) :=
 ((patch_Check a0).bind fun t6 => (if (t6 != (0 : Int)) = true then some (zL, t6) else (if ((lenI a0) == (0 : Int)) = true then ((node_Empty).bind fun t18 => some (t18, (0 : Int))) else ((patch_join k a0).bind fun t24 => some (t24.sum, (0 : Int))))))

theorem patch_Top_ok {S : Hp} (k : Nat) (a0 : (List Item)) {va0 : Value} (qa0 : Sls S va0 a0) {r : Lab × Int} (h : patch_Top k a0 = some r) : Fn Tryz.prog 67 [va0] S (fun v S' => v = .tuple #[aggV [sL r.1], .int .i64 r.2]) := by
 unfold patch_Top at h
 refine fo [.cell 2 23, .tmp 3] 18 Tryz.func67 Tryz.ntmps67 (fun o F Q hQ hN hret => ?_)
 refine sr (fun _ hK1 => ?_)
 refine st (OS.alloc _ (by decide) zero23 (fun ad2 => ?_))
 refine an ?_
 refine nt hK1 ?_
 refine G.seq (fun _ hK4 => ?_)
 refine sr (fun _ hK5 => ?_)
 refine mv ?_
 obtain ⟨t6, wt6, h⟩ := bind_some' h
 refine st (cl fb43 (patch_Check_ok a0 qa0 wt6) (fun v7 S8 e9 z10 => ?_))
 replace qa0 := qa0.up e9
 obtain rfl := z10
 refine an ?_
 refine nt hK5 ?_
 refine sr (fun _ hK11 => ?_)
 refine mv ?_
 refine vl (Y.neI rfl rfl) ?_
 refine nt hK11 ?_
 refine G.cond _ rfl (fun c12 => ?_) (fun c12 => ?_)
 ·replace h := ite_t c12 h
  refine sr (fun _ hK13 => ?_)
  refine vl (Y.buildA [] [sL zL] arr23 zero23 rfl (by kernel_rfl) (by kernel_rfl)) ?_
  refine mv ?_
  refine sf 0 1 [sL zL] (aggV_cells _) (oL oN) size23 ?_
  refine an ?_
  refine nt hK13 ?_
  refine G.ret ?_
  obtain rfl := Option.some.inj h
  exact hret _ _ _ _ 1 e9 (.cons (.row (k := 0) rfl rfl row23 (by kernel_rfl)) (.cons (.tmp rfl) .nil)) rfl rfl
 replace h := ite_f c12 h
 refine sk hK4 ?_
 refine G.seq (fun _ hK14 => ?_)
 refine sr (fun _ hK15 => ?_)
 refine mv ?_
 refine vl (Y.lenS rfl qa0 slc32) ?_
 refine vl (Y.eqI rfl rfl) ?_
 refine nt hK15 ?_
 refine G.cond _ rfl (fun c16 => ?_) (fun c16 => ?_)
 ·replace h := ite_t c16 h
  refine sr (fun _ hK17 => ?_)
  obtain ⟨t18, wt18, h⟩ := bind_some' h
  refine st (cl fb38 (node_Empty_ok  wt18) (fun v19 S20 e21 z22 => ?_))
  replace qa0 := qa0.up e21
  obtain rfl := z22
  refine sf 0 1 [sL t18] (aggV_cells _) (oL oN) size23 ?_
  refine an ?_
  refine nt hK17 ?_
  refine G.ret ?_
  obtain rfl := Option.some.inj h
  exact hret _ _ _ _ 1 (l2 e9 e21) (.cons (.row (k := 0) rfl rfl row23 (by kernel_rfl)) (.cons (.tmp rfl) .nil)) rfl rfl
 replace h := ite_f c16 h
 refine sk hK14 ?_
 refine sr (fun _ hK23 => ?_)
 refine mv ?_
 obtain ⟨t24, wt24, h⟩ := bind_some' h
 refine st (cl fb143 (patch_join_ok k a0 qa0 wt24) (fun v25 S26 e27 z28 => ?_))
 replace qa0 := qa0.up e27
 obtain rfl := z28
 refine vl (Y.field 2 1 [sL t24.sum] rfl ⟨_, _, Tryz.underlying29, rfl, rfl, rfl⟩ rfl rfl row23 (by kernel_rfl)) ?_
 refine sf 0 1 [sL t24.sum] (aggV_cells _) (oL oN) size23 ?_
 refine an ?_
 refine nt hK23 ?_
 refine G.ret ?_
 obtain rfl := Option.some.inj h
 exact hret _ _ _ _ 1 (l2 e9 e27) (.cons (.row (k := 0) rfl rfl row23 (by kernel_rfl)) (.cons (.tmp rfl) .nil)) rfl rfl

end
end Go.Ch
end
section
/- Functions of the program: what each comes to, proved. -/
set_option linter.unusedVariables false
set_option linter.unusedSimpArgs false
set_option maxRecDepth 100000
set_option maxHeartbeats 4000000
namespace Go.Ch
open Go.RowKit (wrap64)
open Go.Proofs
noncomputable section
/- chirograph/proof.Extract -/
end
end Go.Ch
end
section
/- Functions of the program: what each comes to, proved. -/
set_option linter.unusedVariables false
set_option linter.unusedSimpArgs false
set_option maxRecDepth 100000
set_option maxHeartbeats 4000000
namespace Go.Ch
open Go.RowKit (wrap64)
open Go.Proofs
noncomputable section
/- chirograph/chirographref18.Extract -/
end
end Go.Ch
end
section
/- Functions of the program: what each comes to, proved. -/
set_option linter.unusedVariables false
set_option linter.unusedSimpArgs false
set_option maxRecDepth 100000
set_option maxHeartbeats 4000000
namespace Go.Ch
open Go.RowKit (wrap64)
open Go.Proofs
noncomputable section
/- slices.Reverse[[]chirograph/node.Item,chirograph/node.Item] -/
def slices_Reverse_Item_s1  : (Int × Int × (List Item)) → Option ((Int × Int × (List Item)) ⊕ (Int × Int × (List Item)))
 | (x4, x5, x6) => (if (decide (x5 < x4)) = true then ((req ((0 : Int) ≤ x4 ∧ x4 < lenI x6)).bind fun _ => ((req ((0 : Int) ≤ x5 ∧ x5 < lenI x6)).bind fun _ => ((req ((0 : Int) ≤ x5 ∧ x5 < lenI x6)).bind fun _ => ((req ((0 : Int) ≤ x4 ∧ x4 < lenI (x6.set (Int.toNat x5) (getI x6 x4)))).bind fun _ => some (.inl ((wrap64 (x4 - (1 : Int))), (wrap64 (x5 + (1 : Int))), ((x6.set (Int.toNat x5) (getI x6 x4)).set (Int.toNat x4) (getI x6 x5)))))))) else some (.inr (x4, x5, x6)))

def slices_Reverse_Item  (a0 : (List Item)) : Option (List Item) :=
 ((iter (slices_Reverse_Item_s1) ((wrap64 ((lenI a0) - (1 : Int))), (0 : Int), a0)).bind fun b8 => (match b8 with | (x4, x5, x6) => some x6))

theorem slices_Reverse_Item_ok {S : Hp} (a0 : (List Item)) {va0 : Value} {r : (List Item)} (h : slices_Reverse_Item a0 = some r) : FnP Tryz.prog 144 [va0] S (Rw va0 a0) (fun v S' A' => v = .tuple #[] ∧ A' = Rw va0 r) := by
 unfold slices_Reverse_Item at h
 refine Fn.ofP [] 28 Tryz.func144 rfl Tryz.ntmps144 (Nat.le_of_ble_eq_true rfl) rfl (fun o F Q hQ hN hret => ?_)
 refine sr (fun _ hK1 => ?_)
 refine mv ?_
 refine vl (Y.lenR 0  rfl rfl slc32) ?_
 refine vl (Y.subI rfl rfl) ?_
 refine an ?_
 refine an ?_
 refine nt hK1 ?_
 refine G.block ?_
 obtain ⟨b8, wb8, ho9⟩ := bind_some' h
 refine G.keep [3, 2, 0] rfl ?_
 refine G.loopK (slices_Reverse_Item_s1) (fun s₀ E' S' L' => match s₀ with | (x4, x5, x6) => S.le S' ∧ E' = [(3, .int .i64 x4), (2, .int .i64 x5), (0, va0)] ∧ Rw va0 x6 :: F = L') b8 0 (fun E₀ S₀ L₀ => ∃ (x4 : Int) (x5 : Int) (x6 : (List Item)), S.le S₀ ∧ b8 = (x4, x5, x6) ∧ E₀ = [] ∧ Rw va0 x6 :: F = L₀) wb8 ?_ ?_ ?_
 ·rintro _ S30 _ ⟨x4, x5, x6, e31, rfl, rfl, rfl⟩
  have h := ho9; clear ho9
  try dsimp only at h
  refine GX.exit_block ?_
  refine GX.fall hN ?_
  obtain rfl := Option.some.inj h
  exact hret _ _ _ _ _ 0 e31 .nil ⟨rfl, rfl⟩ rfl
 ·exact ⟨Hp.le_refl _, rfl, rfl⟩
 rintro ⟨x4, x5, x6⟩ _ S2 _ ⟨e3, rfl, rfl⟩ out1 h hf1 K1 hK1 hx7
 rw [slices_Reverse_Item_s1] at h
 refine G.seq (fun _ hK10 => ?_)
 refine sr (fun _ hK11 => ?_)
 refine mv ?_
 refine mv ?_
 refine vl (Y.ltI rfl rfl) ?_
 refine nt hK11 ?_
 refine G.cond _ rfl (fun c12 => ?_) (fun c12 => ?_)
 ·replace h := ite_t c12 h
  refine sk hK10 ?_
  refine G.seq (fun _ hK13 => ?_)
  refine G.block ?_
  obtain ⟨g14, h⟩ := req_bind h
  refine G.rowAt 0 rfl g14 (fun ad15 p16 z17 => ?_)
  obtain ⟨g18, h⟩ := req_bind h
  refine G.rowAt 0 rfl g18 (fun ad19 p20 z21 => ?_)
  obtain ⟨g22, h⟩ := req_bind h
  refine G.rowAt 0 rfl g22 (fun ad23 p24 z25 => ?_)
  obtain ⟨g26, h⟩ := req_bind h
  refine G.rowAt 0 rfl (by simpa [lenI] using g26) (fun ad27 p28 z29 => ?_)
  refine G.drawS 13 _ ((fun _ => True) :: F) mixed .refl (by kernel_rfl) ?_
  refine tx 0 rfl (.lose .refl) hQ (fun _ _ _ => Y.move rfl) ?_
  refine tx 1 rfl (.lose .refl) hQ (fun _ _ _ => Y.move rfl) ?_
  refine tx 2 rfl (.lose .refl) hQ (fun _ _ _ => Y.move rfl) ?_
  refine tx 3 rfl (.lose .refl) hQ (fun _ _ _ => Y.move rfl) ?_
  refine tx 4 rfl (.lose .refl) hQ (fun _ _ _ => Y.move rfl) ?_
  refine tx 5 rfl (.lose .refl) hQ (fun _ _ _ => Y.move rfl) ?_
  refine tx 6 rfl (.lose .refl) hQ (fun _ _ _ => Y.idxR rfl z17 rfl slc32 g14) ?_
  refine tk 7 [7, 13] rfl hQ Gd.none (fun S₀ X₀ e₀ => Y.loadRow (X₀.length + 0)  x4 0 4 [sV (.int .i64 ((getI x6 x4).len)), sL ((getI x6 x4).bits), sL ((getI x6 x4).sum), sV (.int .i64 ((getI x6 x4).at_))] rfl (Lk rfl) z17 g14 rfl rfl row29 (by kernel_rfl)) ?_
  refine tx 8 rfl (.lose .refl) hQ (fun _ _ _ => Y.move rfl) ?_
  refine tx 9 rfl (.lose .refl) hQ (fun _ _ _ => Y.move rfl) ?_
  refine tx 10 rfl (.lose .refl) hQ (fun _ _ _ => Y.idxR rfl z21 rfl slc32 g18) ?_
  refine tk 11 [11, 13] rfl hQ Gd.none (fun S₀ X₀ e₀ => Y.loadRow (X₀.length + 0)  x5 0 4 [sV (.int .i64 ((getI x6 x5).len)), sL ((getI x6 x5).bits), sL ((getI x6 x5).sum), sV (.int .i64 ((getI x6 x5).at_))] rfl (Lk rfl) z21 g18 rfl rfl row29 (by kernel_rfl)) ?_
  refine tx 12 rfl (.lose .refl) hQ (fun _ _ _ => Y.idxR rfl z25 rfl slc32 g22) ?_
  refine g1 13 ?_
  refine n2 rfl (OS.storeRow 0 x5 (getI x6 x4) rfl rfl (aggV_cells _) rfl z25 g22 rfl size29 ⟨⟨[], (.lose .refl), l0⟩, ?_⟩)
  refine tx 14 rfl (.lose .refl) hQ (fun _ _ _ => Y.idxR rfl z29 rfl slc32 (by simpa [lenI] using g26)) ?_
  refine g1 15 ?_
  refine n2 rfl (OS.storeRow 0 x4 (getI x6 x5) rfl rfl (aggV_cells _) rfl z29 g26 rfl size29 ⟨⟨[], (.lose .refl), l0⟩, ?_⟩)
  refine dn ?_
  refine GX.normal_block ?_
  refine GX.then hK13 ?_
  refine G.region ?_
  refine mv ?_
  refine vl (Y.addI rfl rfl) ?_
  refine mv ?_
  refine vl (Y.subI rfl rfl) ?_
  refine an ?_
  refine an ?_
  refine GO.nil ?_
  obtain rfl := Option.some.inj h
  refine GX.keep [3, 2, 0] rfl ?_
  exact hK1 _ _ _ _ rfl ⟨e3, rfl, rfl⟩
 replace h := ite_f c12 h
 refine G.exit ?_
 refine GX.exit_then ?_
 obtain rfl := Option.some.inj h
 refine GX.keep [] rfl ?_
 exact hx7 _ _ _ ⟨_, _, _, e3, (hf1 _ rfl).symm, rfl, rfl⟩

end
end Go.Ch
end
section
/- Functions of the program: what each comes to, proved. -/
set_option linter.unusedVariables false
set_option linter.unusedSimpArgs false
set_option maxRecDepth 100000
set_option maxHeartbeats 4000000
namespace Go.Ch
open Go.RowKit (wrap64)
open Go.Proofs
noncomputable section
/- chirograph/node.AsInner -/
def node_AsInner  (a0 : Nd) : Option (Inner × Bool) :=
 (match a0 with | .leaf x5 => some ((⟨(⟨0, zL, zL, 0⟩ : Item), (⟨0, zL, zL, 0⟩ : Item)⟩ : Inner), false) | .inner x6 => some (x6, true) | .nil => some ((⟨(⟨0, zL, zL, 0⟩ : Item), (⟨0, zL, zL, 0⟩ : Item)⟩ : Inner), false))

theorem node_AsInner_ok {S : Hp} (a0 : Nd) {r : Inner × Bool} (h : node_AsInner a0 = some r) : Fn Tryz.prog 91 [ndV a0] S (fun v S' => v = .tuple #[aggV [sV (.int .i64 r.1.l.len), sL r.1.l.bits, sL r.1.l.sum, sV (.int .i64 r.1.l.at_), sV (.int .i64 r.1.r.len), sL r.1.r.bits, sL r.1.r.sum, sV (.int .i64 r.1.r.at_)], .bool r.2]) := by
 unfold node_AsInner at h
 refine fo [.cell 2 31, .tmp 3] 13 Tryz.func91 Tryz.ntmps91 (fun o F Q hQ hN hret => ?_)
 refine sr (fun _ hK1 => ?_)
 refine st (OS.alloc _ (by decide) zero31 (fun ad2 => ?_))
 refine an ?_
 refine nt hK1 ?_
 refine sr (fun _ hK4 => ?_)
 refine mv ?_
 generalize a0 = n₀ at h ⊢
 rcases n₀ with x5 | x6 | _
 ·try dsimp only at h
  refine vl (Y.taNo rfl stt31 zero31 rfl _ zv31) ?_
  refine mv ?_
  refine vl (Y.extract _ rfl rfl) ?_
  refine vl (Y.extract _ rfl rfl) ?_
  refine st (OS.alloc _ (by decide) zero31 (fun ad7 => ?_))
  refine sf 0 8 [sV (.int .i64 0), sL zL, sL zL, sV (.int .i64 0), sV (.int .i64 0), sL zL, sL zL, sV (.int .i64 0)] (aggV_cells _) (oI (oL (oL (oI (oI (oL (oL (oI oN)))))))) size31 ?_
  refine an ?_
  refine nt hK4 ?_
  refine sr (fun _ hK9 => ?_)
  refine lb 0 0 8 [sV (.int .i64 0), sL zL, sL zL, sV (.int .i64 0), sV (.int .i64 0), sL zL, sL zL, sV (.int .i64 0)] row31 ?_
  refine mv ?_
  refine sf 1 8 [sV (.int .i64 0), sL zL, sL zL, sV (.int .i64 0), sV (.int .i64 0), sL zL, sL zL, sV (.int .i64 0)] (aggV_cells _) (oI (oL (oL (oI (oI (oL (oL (oI oN)))))))) size31 ?_
  refine an ?_
  refine nt hK9 ?_
  refine G.ret ?_
  obtain rfl := Option.some.inj h
  exact hret _ _ _ _ 2 l0 (.cons (.row (k := 1) rfl rfl row31 (by kernel_rfl)) (.cons (.tmp rfl) .nil)) rfl rfl
 ·try dsimp only at h
  refine vl (Y.taYes rfl stt31) ?_
  refine mv ?_
  refine vl (Y.extract _ rfl rfl) ?_
  refine vl (Y.extract _ rfl rfl) ?_
  refine st (OS.alloc _ (by decide) zero31 (fun ad10 => ?_))
  refine sf 0 8 [sV (.int .i64 x6.l.len), sL x6.l.bits, sL x6.l.sum, sV (.int .i64 x6.l.at_), sV (.int .i64 x6.r.len), sL x6.r.bits, sL x6.r.sum, sV (.int .i64 x6.r.at_)] (aggV_cells _) (oI (oL (oL (oI (oI (oL (oL (oI oN)))))))) size31 ?_
  refine an ?_
  refine nt hK4 ?_
  refine sr (fun _ hK12 => ?_)
  refine lb 0 0 8 [sV (.int .i64 x6.l.len), sL x6.l.bits, sL x6.l.sum, sV (.int .i64 x6.l.at_), sV (.int .i64 x6.r.len), sL x6.r.bits, sL x6.r.sum, sV (.int .i64 x6.r.at_)] row31 ?_
  refine mv ?_
  refine sf 1 8 [sV (.int .i64 x6.l.len), sL x6.l.bits, sL x6.l.sum, sV (.int .i64 x6.l.at_), sV (.int .i64 x6.r.len), sL x6.r.bits, sL x6.r.sum, sV (.int .i64 x6.r.at_)] (aggV_cells _) (oI (oL (oL (oI (oI (oL (oL (oI oN)))))))) size31 ?_
  refine an ?_
  refine nt hK12 ?_
  refine G.ret ?_
  obtain rfl := Option.some.inj h
  exact hret _ _ _ _ 2 l0 (.cons (.row (k := 1) rfl rfl row31 (by kernel_rfl)) (.cons (.tmp rfl) .nil)) rfl rfl
 try dsimp only at h
 refine vl (Y.taNil (segs := []) rfl stt31 _ zv31) ?_
 refine mv ?_
 refine vl (Y.extract _ rfl rfl) ?_
 refine vl (Y.extract _ rfl rfl) ?_
 refine st (OS.alloc _ (by decide) zero31 (fun ad13 => ?_))
 refine sf 0 8 [sV (.int .i64 0), sL zL, sL zL, sV (.int .i64 0), sV (.int .i64 0), sL zL, sL zL, sV (.int .i64 0)] (aggV_cells _) (oI (oL (oL (oI (oI (oL (oL (oI oN)))))))) size31 ?_
 refine an ?_
 refine nt hK4 ?_
 refine sr (fun _ hK15 => ?_)
 refine lb 0 0 8 [sV (.int .i64 0), sL zL, sL zL, sV (.int .i64 0), sV (.int .i64 0), sL zL, sL zL, sV (.int .i64 0)] row31 ?_
 refine mv ?_
 refine sf 1 8 [sV (.int .i64 0), sL zL, sL zL, sV (.int .i64 0), sV (.int .i64 0), sL zL, sL zL, sV (.int .i64 0)] (aggV_cells _) (oI (oL (oL (oI (oI (oL (oL (oI oN)))))))) size31 ?_
 refine an ?_
 refine nt hK15 ?_
 refine G.ret ?_
 obtain rfl := Option.some.inj h
 exact hret _ _ _ _ 2 l0 (.cons (.row (k := 1) rfl rfl row31 (by kernel_rfl)) (.cons (.tmp rfl) .nil)) rfl rfl

/- chirograph/node.write -/
def node_write  (a0 : Wr) (a1 : Item) : Option Wr :=
 ((code_Writer_Number a0 a1.len).bind fun t5 => ((code_Writer_Label t5 a1.bits).bind fun t11 => ((code_Writer_Label t11 a1.sum).bind fun t17 => ((code_Writer_Number t17 a1.at_).bind fun t22 => some t22))))

theorem node_write_ok {S : Hp} (a0 : Wr) (a1 : Item) {b0 : Nat} {r : Wr} (h : node_write a0 a1 = some r) : FnP Tryz.prog 178 [.pointer (some ⟨b0, 0, none⟩), aggV [sV (.int .i64 a1.len), sL a1.bits, sL a1.sum, sV (.int .i64 a1.at_)]] S (WrA b0 a0) (fun v S' A' => v = .tuple #[] ∧ A' = WrA b0 r) := by
 unfold node_write at h
 refine Fn.ofP [] 22 Tryz.func178 rfl Tryz.ntmps178 (Nat.le_of_ble_eq_true rfl) rfl (fun o F Q hQ hN hret => ?_)
 refine sr (fun _ hK1 => ?_)
 refine st (OS.boxA (by decide) rfl (fun ad2 => ?_))
 refine nt hK1 ?_
 refine sr (fun _ hK4 => ?_)
 refine mv ?_
 refine vl (Y.fieldAddr 0 rfl fld29_0 rfl) ?_
 refine vl (Y.fieldAddr 0 rfl fld27_0 rfl) ?_
 refine lv 0 0 one3 ?_
 obtain ⟨t5, wt5, h⟩ := bind_some' h
 refine st (OS.callP 1 _ (by decide) rfl fb102 rfl (code_Writer_Number_ok a0 a1.len wt5) (fun v6 S7 _ e8 z9 => ?_))
 obtain ⟨rfl, rfl⟩ := z9
 refine nt hK4 ?_
 refine sr (fun _ hK10 => ?_)
 refine mv ?_
 refine vl (Y.fieldAddr 0 rfl fld29_0 rfl) ?_
 refine vl (Y.fieldAddr 1 rfl fld27_1 rfl) ?_
 refine lb 0 1 1 [sL a1.bits] row23 ?_
 obtain ⟨t11, wt11, h⟩ := bind_some' h
 refine st (OS.callP 1 _ (by decide) rfl fb177 rfl (code_Writer_Label_ok t5 a1.bits wt11) (fun v12 S13 _ e14 z15 => ?_))
 obtain ⟨rfl, rfl⟩ := z15
 refine nt hK10 ?_
 refine sr (fun _ hK16 => ?_)
 refine mv ?_
 refine vl (Y.fieldAddr 33 rfl fld29_1 rfl) ?_
 refine lb 0 2 1 [sL a1.sum] row23 ?_
 obtain ⟨t17, wt17, h⟩ := bind_some' h
 refine st (OS.callP 1 _ (by decide) rfl fb177 rfl (code_Writer_Label_ok t11 a1.sum wt17) (fun v18 S19 _ e20 z21 => ?_))
 obtain ⟨rfl, rfl⟩ := z21
 refine nt hK16 ?_
 refine G.region ?_
 refine mv ?_
 refine vl (Y.fieldAddr 65 rfl fld29_2 rfl) ?_
 refine lv 0 3 one3 ?_
 obtain ⟨t22, wt22, h⟩ := bind_some' h
 refine st (OS.callP 1 _ (by decide) rfl fb102 rfl (code_Writer_Number_ok t17 a1.at_ wt22) (fun v23 S24 _ e25 z26 => ?_))
 obtain ⟨rfl, rfl⟩ := z26
 refine GO.nil ?_
 refine GX.fall hN ?_
 obtain rfl := Option.some.inj h
 exact hret _ _ _ _ _ 1 (l2 e8 (l2 e14 (l2 e20 e25))) .nil ⟨rfl, rfl⟩ rfl

/- chirograph/node.Bytes -/
def node_Bytes  (a0 : Nd) : Option (Str × Int) :=
 ((node_Check a0).bind fun t4 => (if (t4 != (0 : Int)) = true then some (([] : Str), t4) else (match a0 with | .leaf x17 => ((code_Writer_Flag (⟨([] : List UInt8), 0⟩ : Wr) false).bind fun t25 => ((code_Writer_Label t25 x17.label).bind fun t31 => ((code_Writer_Label t31 x17.value).bind fun t37 => ((code_Writer_Number t37 x17.at_).bind fun t43 => ((code_Writer_Done t43).bind fun t49 => some (t49.1, t49.2.1)))))) | .inner x18 => ((code_Writer_Flag (⟨([] : List UInt8), 0⟩ : Wr) true).bind fun t63 => ((node_write t63 x18.l).bind fun t69 => ((node_write t69 x18.r).bind fun t75 => ((code_Writer_Done t75).bind fun t81 => some (t81.1, t81.2.1))))) | .nil => none)))

theorem node_Bytes_ok {S : Hp} (a0 : Nd) {r : Str × Int} (h : node_Bytes a0 = some r) : Fn Tryz.prog 103 [ndV a0] S (fun v S' => v = .tuple #[strV r.1, .int .i64 r.2]) := by
 unfold node_Bytes at h
 refine fo [.tmp 2, .tmp 3] 45 Tryz.func103 Tryz.ntmps103 (fun o F Q hQ hN hret => ?_)
 refine sr (fun _ hK1 => ?_)
 refine an ?_
 refine an ?_
 refine nt hK1 ?_
 refine G.seq (fun _ hK2 => ?_)
 refine sr (fun _ hK3 => ?_)
 refine mv ?_
 obtain ⟨t4, wt4, h⟩ := bind_some' h
 refine st (cl fb52 (node_Check_ok a0 wt4) (fun v5 S6 e7 z8 => ?_))
 obtain rfl := z8
 refine an ?_
 refine nt hK3 ?_
 refine sr (fun _ hK9 => ?_)
 refine mv ?_
 refine vl (Y.neI rfl rfl) ?_
 refine nt hK9 ?_
 refine G.cond _ rfl (fun c10 => ?_) (fun c10 => ?_)
 ·replace h := ite_t c10 h
  refine sr (fun _ hK11 => ?_)
  refine mv ?_
  refine an ?_
  refine an ?_
  refine nt hK11 ?_
  refine G.ret ?_
  obtain rfl := Option.some.inj h
  exact hret _ _ _ _ 0 e7 (.cons (.tmp rfl) (.cons (.tmp rfl) .nil)) rfl rfl
 replace h := ite_f c10 h
 refine sk hK2 ?_
 refine sr (fun _ hK12 => ?_)
 refine st (OS.alloc _ (by decide) zero168 (fun ad13 => ?_))
 refine nt hK12 ?_
 refine G.seq (fun _ hK15 => ?_)
 refine sr (fun _ hK16 => ?_)
 refine mv ?_
 generalize a0 = n₀ at h ⊢
 rcases n₀ with x17 | x18 | _
 ·try dsimp only at h
  refine vl (Y.taYes rfl stt25) ?_
  refine mv ?_
  refine vl (Y.extract _ rfl rfl) ?_
  refine vl (Y.extract _ rfl rfl) ?_
  refine st (OS.alloc _ (by decide) zero25 (fun ad19 => ?_))
  refine sf 0 3 [sL x17.label, sL x17.value, sV (.int .i64 x17.at_)] (aggV_cells _) (oL (oL (oI oN))) size25 ?_
  refine an ?_
  refine nt hK16 ?_
  refine sr (fun _ hK21 => ?_)
  refine mv ?_
  refine nt hK21 ?_
  refine G.cond true rfl (fun _ => ?_) (fun c22 => nomatch c22)
  refine sr (fun _ hK23 => ?_)
  obtain ⟨t25, wt25, h⟩ := bind_some' h
  refine GO.nilRow (α := UInt8) ?_
  refine GO.foldW 2 0 rfl rfl (by decide) ?_
  refine st (OS.callP 2 _ (by decide) rfl fb176 rfl (code_Writer_Flag_ok (⟨([] : List UInt8), 0⟩ : Wr) false wt25) (fun v26 S27 _ e28 z29 => ?_))
  obtain ⟨rfl, rfl⟩ := z29
  refine nt hK23 ?_
  refine sr (fun _ hK30 => ?_)
  refine vl (Y.fieldAddr 0 rfl fld25_0 rfl) ?_
  refine lb 1 0 1 [sL x17.label] row23 ?_
  obtain ⟨t31, wt31, h⟩ := bind_some' h
  refine st (OS.callP 2 _ (by decide) rfl fb177 rfl (code_Writer_Label_ok t25 x17.label wt31) (fun v32 S33 _ e34 z35 => ?_))
  obtain ⟨rfl, rfl⟩ := z35
  refine nt hK30 ?_
  refine sr (fun _ hK36 => ?_)
  refine vl (Y.fieldAddr 32 rfl fld25_1 rfl) ?_
  refine lb 1 1 1 [sL x17.value] row23 ?_
  obtain ⟨t37, wt37, h⟩ := bind_some' h
  refine st (OS.callP 2 _ (by decide) rfl fb177 rfl (code_Writer_Label_ok t31 x17.value wt37) (fun v38 S39 _ e40 z41 => ?_))
  obtain ⟨rfl, rfl⟩ := z41
  refine nt hK36 ?_
  refine sr (fun _ hK42 => ?_)
  refine vl (Y.fieldAddr 64 rfl fld25_2 rfl) ?_
  refine lv 1 2 one3 ?_
  obtain ⟨t43, wt43, h⟩ := bind_some' h
  refine st (OS.callP 2 _ (by decide) rfl fb102 rfl (code_Writer_Number_ok t37 x17.at_ wt43) (fun v44 S45 _ e46 z47 => ?_))
  obtain ⟨rfl, rfl⟩ := z47
  refine nt hK42 ?_
  refine sr (fun _ hK48 => ?_)
  obtain ⟨t49, wt49, h⟩ := bind_some' h
  refine st (OS.callP 2 _ (by decide) rfl fb106 rfl (code_Writer_Done_ok t43 wt49) (fun v50 S51 _ e52 z53 => ?_))
  obtain ⟨rfl, rfl⟩ := z53
  refine vl (Y.extract _ rfl rfl) ?_
  refine vl (Y.extract _ rfl rfl) ?_
  refine an ?_
  refine an ?_
  refine nt hK48 ?_
  refine G.ret ?_
  obtain rfl := Option.some.inj h
  exact hret _ _ _ _ 3 (l2 e7 (l2 e28 (l2 e34 (l2 e40 (l2 e46 e52))))) (.cons (.tmp rfl) (.cons (.tmp rfl) .nil)) rfl rfl
 ·try dsimp only at h
  refine vl (Y.taNo rfl stt25 zero25 rfl _ zv25) ?_
  refine mv ?_
  refine vl (Y.extract _ rfl rfl) ?_
  refine vl (Y.extract _ rfl rfl) ?_
  refine st (OS.alloc _ (by decide) zero25 (fun ad54 => ?_))
  refine sf 0 3 [sL zL, sL zL, sV (.int .i64 0)] (aggV_cells _) (oL (oL (oI oN))) size25 ?_
  refine an ?_
  refine nt hK16 ?_
  refine sr (fun _ hK56 => ?_)
  refine mv ?_
  refine nt hK56 ?_
  refine G.cond false rfl (fun c57 => nomatch c57) (fun _ => ?_)
  refine sk hK15 ?_
  refine sr (fun _ hK58 => ?_)
  refine mv ?_
  refine vl (Y.taOne rfl stt31) ?_
  refine st (OS.alloc _ (by decide) zero31 (fun ad59 => ?_))
  refine sf 0 8 [sV (.int .i64 x18.l.len), sL x18.l.bits, sL x18.l.sum, sV (.int .i64 x18.l.at_), sV (.int .i64 x18.r.len), sL x18.r.bits, sL x18.r.sum, sV (.int .i64 x18.r.at_)] (aggV_cells _) (oI (oL (oL (oI (oI (oL (oL (oI oN)))))))) size31 ?_
  refine nt hK58 ?_
  refine sr (fun _ hK61 => ?_)
  obtain ⟨t63, wt63, h⟩ := bind_some' h
  refine GO.nilRow (α := UInt8) ?_
  refine GO.foldW 3 0 rfl rfl (by decide) ?_
  refine st (OS.callP 3 _ (by decide) rfl fb176 rfl (code_Writer_Flag_ok (⟨([] : List UInt8), 0⟩ : Wr) true wt63) (fun v64 S65 _ e66 z67 => ?_))
  obtain ⟨rfl, rfl⟩ := z67
  refine nt hK61 ?_
  refine sr (fun _ hK68 => ?_)
  refine vl (Y.fieldAddr 0 rfl fld31_0 rfl) ?_
  refine lb 1 0 4 [sV (.int .i64 x18.l.len), sL x18.l.bits, sL x18.l.sum, sV (.int .i64 x18.l.at_)] row29 ?_
  obtain ⟨t69, wt69, h⟩ := bind_some' h
  refine st (OS.callP 3 _ (by decide) rfl fb178 rfl (node_write_ok t63 x18.l wt69) (fun v70 S71 _ e72 z73 => ?_))
  obtain ⟨rfl, rfl⟩ := z73
  refine nt hK68 ?_
  refine sr (fun _ hK74 => ?_)
  refine vl (Y.fieldAddr 66 rfl fld31_1 rfl) ?_
  refine lb 1 4 4 [sV (.int .i64 x18.r.len), sL x18.r.bits, sL x18.r.sum, sV (.int .i64 x18.r.at_)] row29 ?_
  obtain ⟨t75, wt75, h⟩ := bind_some' h
  refine st (OS.callP 3 _ (by decide) rfl fb178 rfl (node_write_ok t69 x18.r wt75) (fun v76 S77 _ e78 z79 => ?_))
  obtain ⟨rfl, rfl⟩ := z79
  refine nt hK74 ?_
  refine sr (fun _ hK80 => ?_)
  obtain ⟨t81, wt81, h⟩ := bind_some' h
  refine st (OS.callP 3 _ (by decide) rfl fb106 rfl (code_Writer_Done_ok t75 wt81) (fun v82 S83 _ e84 z85 => ?_))
  obtain ⟨rfl, rfl⟩ := z85
  refine vl (Y.extract _ rfl rfl) ?_
  refine vl (Y.extract _ rfl rfl) ?_
  refine an ?_
  refine an ?_
  refine nt hK80 ?_
  refine G.ret ?_
  obtain rfl := Option.some.inj h
  exact hret _ _ _ _ 4 (l2 e7 (l2 e66 (l2 e72 (l2 e78 e84)))) (.cons (.tmp rfl) (.cons (.tmp rfl) .nil)) rfl rfl
 try dsimp only at h
 refine vl (Y.taNil (segs := []) rfl stt25 _ zv25) ?_
 refine mv ?_
 refine vl (Y.extract _ rfl rfl) ?_
 refine vl (Y.extract _ rfl rfl) ?_
 refine st (OS.alloc _ (by decide) zero25 (fun ad86 => ?_))
 refine sf 0 3 [sL zL, sL zL, sV (.int .i64 0)] (aggV_cells _) (oL (oL (oI oN))) size25 ?_
 refine an ?_
 refine nt hK16 ?_
 refine sr (fun _ hK88 => ?_)
 refine mv ?_
 refine nt hK88 ?_
 refine G.cond false rfl (fun c89 => nomatch c89) (fun _ => ?_)
 refine sk hK15 ?_
 refine sr (fun _ hK90 => ?_)
 refine mv ?_
 exact absurd h (by simp)

end
end Go.Ch
end
section
/- Functions of the program: what each comes to, proved. -/
set_option linter.unusedVariables false
set_option linter.unusedSimpArgs false
set_option maxRecDepth 100000
set_option maxHeartbeats 4000000
namespace Go.Ch
open Go.RowKit (wrap64)
open Go.Proofs
noncomputable section
/- chirograph/proof.Make -/
def proof_Make_s1 (k : Nat) (a1 : Lab) : ((List Leaf) × (List Item)) → Option (((List Leaf) × (List Item)) ⊕ (Proof × Int ⊕ ((List Leaf) × (List Item))))
 | (x75, x78) => (if (decide ((1 : Int) < (lenI x75))) = true then ((proof_pair (proof_item k) x75).bind fun t87 => ((node_Inner_Item t87).bind fun t95 => ((bits_Prefix_Has (⟨t95.len, t95.bits⟩ : Pfx) a1).bind fun t104 => (if (!t104) = true then ((slices_Reverse_Item x78).bind fun t111 => some (.inr (.inl ((⟨(2 : Int), (⟨zL, zL, 0⟩ : Leaf), t87.l, t87.r, t111⟩ : Proof), (0 : Int))))) else ((proof_sides x75 t95.len).bind fun t123 => ((bits_Bit a1 t95.len).bind fun t134 => (if (t134 == (1 : Int)) = true then ((proof_item k t123.1).bind fun t141 => ((req (List.length x78 + List.length ([t141] : List Item) ≤ LIM)).bind fun _ => some (.inl (t123.2, (x78 ++ ([t141] : List Item)))))) else ((proof_item k t123.2).bind fun t151 => ((req (List.length x78 + List.length ([t151] : List Item) ≤ LIM)).bind fun _ => some (.inl (t123.1, (x78 ++ ([t151] : List Item))))))))))))) else some (.inr (.inr (x75, x78))))

def proof_Make (k : Nat) (a0 : (List Leaf)) (a1 : Lab) : Option (Proof × Int) :=
 ((proof_sorted k a0).bind fun t7 => ((patch_Of k t7).bind fun t16 => ((patch_Check t16).bind fun t23 => (if (t23 != (0 : Int)) = true then some ((⟨0, (⟨zL, zL, 0⟩ : Leaf), (⟨0, zL, zL, 0⟩ : Item), (⟨0, zL, zL, 0⟩ : Item), []⟩ : Proof), t23) else ((iter (proof_Make_s1 k a1) (t7, ([] : List Item))).bind fun b81 => (match b81 with | .inl r₀ => some r₀ | .inr (x75, x78) => ((slices_Reverse_Item x78).bind fun t163 => (if ((lenI x75) == (0 : Int)) = true then some ((⟨(0 : Int), (⟨zL, zL, 0⟩ : Leaf), (⟨0, zL, zL, 0⟩ : Item), (⟨0, zL, zL, 0⟩ : Item), t163⟩ : Proof), (0 : Int)) else ((req ((0 : Int) ≤ (0 : Int) ∧ (0 : Int) < lenI x75)).bind fun _ => some ((⟨(1 : Int), (getI x75 (0 : Int)), (⟨0, zL, zL, 0⟩ : Item), (⟨0, zL, zL, 0⟩ : Item), t163⟩ : Proof), (0 : Int)))))))))))

theorem proof_Make_ok {S : Hp} (k : Nat) (a0 : (List Leaf)) (a1 : Lab) {va0 : Value} (qa0 : Sls S va0 a0) {r : Proof × Int} (h : proof_Make k a0 a1 = some r) : Fn Tryz.prog 68 [va0, aggV [sL a1]] S (fun v S' => ∃ (v188 : Value), v = .tuple #[aggV [sV (.int .i64 r.1.end_), sL r.1.leaf.label, sL r.1.leaf.value, sV (.int .i64 r.1.leaf.at_), sV (.int .i64 r.1.a.len), sL r.1.a.bits, sL r.1.a.sum, sV (.int .i64 r.1.a.at_), sV (.int .i64 r.1.b.len), sL r.1.b.bits, sL r.1.b.sum, sV (.int .i64 r.1.b.at_), sV v188], .int .i64 r.2] ∧ Sls S' v188 r.1.path) := by
 unfold proof_Make at h
 refine fo [.cell 4 34, .tmp 5] 73 Tryz.func68 Tryz.ntmps68 (fun o F Q hQ hN hret => ?_)
 refine sr (fun _ hK1 => ?_)
 refine st (OS.boxA (by decide) rfl (fun ad2 => ?_))
 refine st (OS.alloc _ (by decide) zero34 (fun ad4 => ?_))
 refine an ?_
 refine nt hK1 ?_
 refine sr (fun _ hK6 => ?_)
 refine mv ?_
 obtain ⟨t7, wt7, h⟩ := bind_some' h
 refine st (cl fb42 (proof_sorted_ok k a0 qa0 wt7) (fun v8 S9 e10 z11 => ?_))
 replace qa0 := qa0.up e10
 have q13 := z11
 refine an ?_
 refine nt hK6 ?_
 refine G.seq (fun _ hK14 => ?_)
 refine sr (fun _ hK15 => ?_)
 refine mv ?_
 obtain ⟨t16, wt16, h⟩ := bind_some' h
 refine st (cl fb44 (patch_Of_ok k t7 q13 wt16) (fun v17 S18 e19 z20 => ?_))
 replace qa0 := qa0.up e19
 replace q13 := q13.up e19
 have q22 := z20
 obtain ⟨t23, wt23, h⟩ := bind_some' h
 refine st (cl fb43 (patch_Check_ok t16 q22 wt23) (fun v24 S25 e26 z27 => ?_))
 replace qa0 := qa0.up e26
 replace q13 := q13.up e26
 replace q22 := q22.up e26
 obtain rfl := z27
 refine an ?_
 refine nt hK15 ?_
 refine sr (fun _ hK28 => ?_)
 refine mv ?_
 refine vl (Y.neI rfl rfl) ?_
 refine nt hK28 ?_
 refine G.cond _ rfl (fun c29 => ?_) (fun c29 => ?_)
 ·replace h := ite_t c29 h
  refine sr (fun _ hK30 => ?_)
  refine vl (Y.buildE _ [sV (.int .i64 0), sL zL, sL zL, sV (.int .i64 0), sV (.int .i64 0), sL zL, sL zL, sV (.int .i64 0), sV (.int .i64 0), sL zL, sL zL, sV (.int .i64 0), sV (.slice none 0 0)] strt34 zero34 rfl .nil) ?_
  refine mv ?_
  refine sf 0 13 [sV (.int .i64 0), sL zL, sL zL, sV (.int .i64 0), sV (.int .i64 0), sL zL, sL zL, sV (.int .i64 0), sV (.int .i64 0), sL zL, sL zL, sV (.int .i64 0), sV (.slice none 0 0)] (aggV_cells _) (oI (oL (oL (oI (oI (oL (oL (oI (oI (oL (oL (oI (oI oN))))))))))))) size34 ?_
  refine an ?_
  refine nt hK30 ?_
  refine G.ret ?_
  obtain rfl := Option.some.inj h
  exact hret _ _ _ _ 2 (l2 e10 (l2 e19 e26)) (.cons (.row (k := 0) rfl rfl row34 (by kernel_rfl)) (.cons (.tmp rfl) .nil)) ⟨_, rfl, (Sls.nil (α := Item) _)⟩ rfl
 replace h := ite_f c29 h
 refine sk hK14 ?_
 refine sr (fun _ hK31 => ?_)
 refine an ?_
 refine nt hK31 ?_
 refine G.seq (fun _ hK32 => ?_)
 refine G.block ?_
 refine G.nilRow (α := Item) ?_
 obtain ⟨b81, wb81, ho82⟩ := bind_some' h
 refine G.keep [8, 6, 4, 3] rfl ?_
 refine G.loopK (proof_Make_s1 k a1) (fun s₀ E' S' L' => match s₀ with | (x75, x78) => S25.le S' ∧ ∃ (v76 : Value) (v79 : Value), Sls S' v76 x75 ∧ E' = [(8, v79), (6, v76), (4, .pointer (some ⟨ad4, 0, none⟩)), (3, .pointer (some ⟨ad2, 0, none⟩))] ∧ Rw v79 x78 :: Blk ad4 [sV (.int .i64 0), sL zL, sL zL, sV (.int .i64 0), sV (.int .i64 0), sL zL, sL zL, sV (.int .i64 0), sV (.int .i64 0), sL zL, sL zL, sV (.int .i64 0), sV (.slice none 0 0)] :: Blk ad2 [sL a1] :: F = L') b81 0 (fun E₀ S₀ L₀ => ∃ (x75 : (List Leaf)) (x78 : (List Item)) (v76 : Value) (v79 : Value), S25.le S₀ ∧ b81 = .inr (x75, x78) ∧ Sls S₀ v76 x75 ∧ E₀ = [(8, v79), (6, v76), (4, .pointer (some ⟨ad4, 0, none⟩))] ∧ Rw v79 x78 :: Blk ad4 [sV (.int .i64 0), sL zL, sL zL, sV (.int .i64 0), sV (.int .i64 0), sL zL, sL zL, sV (.int .i64 0), sV (.int .i64 0), sL zL, sL zL, sV (.int .i64 0), sV (.slice none 0 0)] :: Blk ad2 [sL a1] :: F = L₀) wb81 ?_ ?_ ?_
 ·rintro _ S160 _ ⟨x75, x78, v76, v79, e161, rfl, q77, rfl, rfl⟩
  have h := ho82; clear ho82
  try dsimp only at h
  refine GX.exit_block ?_
  refine GX.then hK32 ?_
  refine sr (fun _ hK162 => ?_)
  refine mv ?_
  obtain ⟨t163, wt163, h⟩ := bind_some' h
  refine st (OS.callP 0 _ (by decide) rfl fb144 rfl (slices_Reverse_Item_ok x78 wt163) (fun v164 S165 _ e166 z167 => ?_))
  replace q77 := q77.up e166
  obtain ⟨rfl, rfl⟩ := z167
  refine nt hK162 ?_
  refine G.seq (fun _ hK168 => ?_)
  refine sr (fun _ hK169 => ?_)
  refine mv ?_
  refine vl (Y.lenS rfl q77 slc35) ?_
  refine vl (Y.eqI rfl rfl) ?_
  refine nt hK169 ?_
  refine G.cond _ rfl (fun c170 => ?_) (fun c170 => ?_)
  ·replace h := ite_t c170 h
   refine sr (fun _ hK171 => ?_)
   refine mv ?_
   refine GO.rowOne 0 rfl (fun z172 => ?_)
   refine vl (Y.buildE _ [sV (.int .i64 (0 : Int)), sL zL, sL zL, sV (.int .i64 0), sV (.int .i64 0), sL zL, sL zL, sV (.int .i64 0), sV (.int .i64 0), sL zL, sL zL, sV (.int .i64 0), sV v79] strt34 zero34 rfl (.cons 0 1 [sV (.int .i64 (0 : Int))] rfl rfl rfl rfl rfl (.cons 12 1 [sV v79] rfl (cells_one z172) rfl rfl rfl .nil))) ?_
   refine GO.rowOne 0 rfl (fun z173 => ?_)
   refine sf 1 13 [sV (.int .i64 (0 : Int)), sL zL, sL zL, sV (.int .i64 0), sV (.int .i64 0), sL zL, sL zL, sV (.int .i64 0), sV (.int .i64 0), sL zL, sL zL, sV (.int .i64 0), sV v79] (aggV_cells _) (oI (oL (oL (oI (oI (oL (oL (oI (oI (oL (oL (oI (oV (z173) oN))))))))))))) size34 ?_
   refine an ?_
   refine nt hK171 ?_
   refine G.ret ?_
   refine GX.shareR 0 rfl (fun S174 e175 q176 => ?_)
   replace q77 := q77.up e175
   obtain rfl := Option.some.inj h
   exact hret _ _ _ _ 3 (l2 e10 (l2 e19 (l2 e26 (l2 e161 (l2 e166 e175))))) (.cons (.row (k := 1) rfl rfl row34 (by kernel_rfl)) (.cons (.tmp rfl) .nil)) ⟨_, rfl, q176⟩ rfl
  replace h := ite_f c170 h
  refine sk hK168 ?_
  refine sr (fun _ hK177 => ?_)
  refine mv ?_
  obtain ⟨g178, h⟩ := req_bind h
  obtain ⟨ad179, p180, z181, q182⟩ := Sls.at q77 g178
  refine vl (Y.idxS rfl z181 rfl slc35 g178) ?_
  refine vl (Y.loadS [sL ((getI x75 (0 : Int)).label), sL ((getI x75 (0 : Int)).value), sV (.int .i64 ((getI x75 (0 : Int)).at_))] rfl (At.part q182 0 3 _ rfl rfl) row25 (by kernel_rfl)) ?_
  refine mv ?_
  refine GO.rowOne 0 rfl (fun z183 => ?_)
  refine vl (Y.buildE _ [sV (.int .i64 (1 : Int)), sL ((getI x75 (0 : Int)).label), sL ((getI x75 (0 : Int)).value), sV (.int .i64 ((getI x75 (0 : Int)).at_)), sV (.int .i64 0), sL zL, sL zL, sV (.int .i64 0), sV (.int .i64 0), sL zL, sL zL, sV (.int .i64 0), sV v79] strt34 zero34 rfl (.cons 0 1 [sV (.int .i64 (1 : Int))] rfl rfl rfl rfl rfl (.cons 1 3 [sL ((getI x75 (0 : Int)).label), sL ((getI x75 (0 : Int)).value), sV (.int .i64 ((getI x75 (0 : Int)).at_))] rfl (aggV_cells _) rfl rfl rfl (.cons 12 1 [sV v79] rfl (cells_one z183) rfl rfl rfl .nil)))) ?_
  refine GO.rowOne 0 rfl (fun z184 => ?_)
  refine sf 1 13 [sV (.int .i64 (1 : Int)), sL ((getI x75 (0 : Int)).label), sL ((getI x75 (0 : Int)).value), sV (.int .i64 ((getI x75 (0 : Int)).at_)), sV (.int .i64 0), sL zL, sL zL, sV (.int .i64 0), sV (.int .i64 0), sL zL, sL zL, sV (.int .i64 0), sV v79] (aggV_cells _) (oI (oL (oL (oI (oI (oL (oL (oI (oI (oL (oL (oI (oV (z184) oN))))))))))))) size34 ?_
  refine an ?_
  refine nt hK177 ?_
  refine G.ret ?_
  refine GX.shareR 0 rfl (fun S185 e186 q187 => ?_)
  replace q77 := q77.up e186
  replace q182 := q182.up e186
  obtain rfl := Option.some.inj h
  exact hret _ _ _ _ 3 (l2 e10 (l2 e19 (l2 e26 (l2 e161 (l2 e166 e186))))) (.cons (.row (k := 1) rfl rfl row34 (by kernel_rfl)) (.cons (.tmp rfl) .nil)) ⟨_, rfl, q187⟩ rfl
 ·exact ⟨Hp.le_refl _, v8, (.slice none 0 0), q13, rfl, rfl⟩
 rintro ⟨x75, x78⟩ _ S73 _ ⟨e74, v76, v79, q77, rfl, rfl⟩ out1 h hf1 K1 hK1 hx80
 rw [proof_Make_s1] at h
 refine G.seq (fun _ hK83 => ?_)
 refine sr (fun _ hK84 => ?_)
 refine mv ?_
 refine vl (Y.lenS rfl q77 slc35) ?_
 refine vl (Y.gtI rfl rfl) ?_
 refine nt hK84 ?_
 refine G.cond _ rfl (fun c85 => ?_) (fun c85 => ?_)
 ·replace h := ite_t c85 h
  refine sk hK83 ?_
  refine G.block ?_
  refine sr (fun _ hK86 => ?_)
  refine mv ?_
  obtain ⟨t87, wt87, h⟩ := bind_some' h
  refine st (cl fb45 (proof_pair_ok (proof_item k) (fun S₁ e₁ a₁ v₁ q₁ r₁ h₁ => proof_item_ok k a₁ q₁ h₁) x75 q77 wt87) (fun v88 S89 e90 z91 => ?_))
  replace q77 := q77.up e90
  obtain rfl := z91
  refine st (OS.alloc _ (by decide) zero31 (fun ad92 => ?_))
  refine sf 0 8 [sV (.int .i64 t87.l.len), sL t87.l.bits, sL t87.l.sum, sV (.int .i64 t87.l.at_), sV (.int .i64 t87.r.len), sL t87.r.bits, sL t87.r.sum, sV (.int .i64 t87.r.at_)] (aggV_cells _) (oI (oL (oL (oI (oI (oL (oL (oI oN)))))))) size31 ?_
  refine nt hK86 ?_
  refine sr (fun _ hK94 => ?_)
  refine lb 0 0 8 [sV (.int .i64 t87.l.len), sL t87.l.bits, sL t87.l.sum, sV (.int .i64 t87.l.at_), sV (.int .i64 t87.r.len), sL t87.r.bits, sL t87.r.sum, sV (.int .i64 t87.r.at_)] row31 ?_
  obtain ⟨t95, wt95, h⟩ := bind_some' h
  refine st (cl fb46 (node_Inner_Item_ok t87 wt95) (fun v96 S97 e98 z99 => ?_))
  replace q77 := q77.up e98
  obtain rfl := z99
  refine st (OS.alloc _ (by decide) zero29 (fun ad100 => ?_))
  refine sf 0 4 [sV (.int .i64 t95.len), sL t95.bits, sL t95.sum, sV (.int .i64 t95.at_)] (aggV_cells _) (oI (oL (oL (oI oN)))) size29 ?_
  refine nt hK94 ?_
  refine G.seq (fun _ hK102 => ?_)
  refine sr (fun _ hK103 => ?_)
  refine vl (Y.fieldAddr 0 rfl fld29_0 rfl) ?_
  refine lb 0 0 2 [sV (.int .i64 t95.len), sL t95.bits] row27 ?_
  refine lb 4 0 1 [sL a1] row23 ?_
  obtain ⟨t104, wt104, h⟩ := bind_some' h
  refine st (cl fb54 (bits_Prefix_Has_ok (⟨t95.len, t95.bits⟩ : Pfx) a1 wt104) (fun v105 S106 e107 z108 => ?_))
  replace q77 := q77.up e107
  obtain rfl := z108
  refine vl (Y.not rfl) ?_
  refine nt hK103 ?_
  refine G.cond _ rfl (fun c109 => ?_) (fun c109 => ?_)
  ·replace h := ite_t c109 h
   refine sr (fun _ hK110 => ?_)
   refine mv ?_
   obtain ⟨t111, wt111, h⟩ := bind_some' h
   refine st (OS.callP 2 _ (by decide) rfl fb144 rfl (slices_Reverse_Item_ok x78 wt111) (fun v112 S113 _ e114 z115 => ?_))
   replace q77 := q77.up e114
   obtain ⟨rfl, rfl⟩ := z115
   refine nt hK110 ?_
   refine sr (fun _ hK116 => ?_)
   refine lb 1 0 8 [sV (.int .i64 t87.l.len), sL t87.l.bits, sL t87.l.sum, sV (.int .i64 t87.l.at_), sV (.int .i64 t87.r.len), sL t87.r.bits, sL t87.r.sum, sV (.int .i64 t87.r.at_)] row31 ?_
   refine mv ?_
   refine GO.rowOne 2 rfl (fun z117 => ?_)
   refine vl (Y.buildE _ [sV (.int .i64 (2 : Int)), sL zL, sL zL, sV (.int .i64 0), sV (.int .i64 t87.l.len), sL t87.l.bits, sL t87.l.sum, sV (.int .i64 t87.l.at_), sV (.int .i64 t87.r.len), sL t87.r.bits, sL t87.r.sum, sV (.int .i64 t87.r.at_), sV v79] strt34 zero34 rfl (.cons 0 1 [sV (.int .i64 (2 : Int))] rfl rfl rfl rfl rfl (.cons 4 8 [sV (.int .i64 t87.l.len), sL t87.l.bits, sL t87.l.sum, sV (.int .i64 t87.l.at_), sV (.int .i64 t87.r.len), sL t87.r.bits, sL t87.r.sum, sV (.int .i64 t87.r.at_)] rfl (aggV_cells _) rfl rfl rfl (.cons 12 1 [sV v79] rfl (cells_one z117) rfl rfl rfl .nil)))) ?_
   refine GO.rowOne 2 rfl (fun z118 => ?_)
   refine sf 3 13 [sV (.int .i64 (2 : Int)), sL zL, sL zL, sV (.int .i64 0), sV (.int .i64 t87.l.len), sL t87.l.bits, sL t87.l.sum, sV (.int .i64 t87.l.at_), sV (.int .i64 t87.r.len), sL t87.r.bits, sL t87.r.sum, sV (.int .i64 t87.r.at_), sV v79] (aggV_cells _) (oI (oL (oL (oI (oI (oL (oL (oI (oI (oL (oL (oI (oV (z118) oN))))))))))))) size34 ?_
   refine an ?_
   refine nt hK116 ?_
   refine G.ret ?_
   refine GX.shareR 2 rfl (fun S119 e120 q121 => ?_)
   replace q77 := q77.up e120
   obtain rfl := Option.some.inj h
   obtain rfl := hf1 _ rfl
   have h := ho82
   try dsimp only at h
   obtain rfl := Option.some.inj h
   exact hret _ _ _ _ 5 (l2 e10 (l2 e19 (l2 e26 (l2 e74 (l2 e90 (l2 e98 (l2 e107 (l2 e114 e120)))))))) (.cons (.row (k := 3) rfl rfl row34 (by kernel_rfl)) (.cons (.tmp rfl) .nil)) ⟨_, rfl, q121⟩ rfl
  replace h := ite_f c109 h
  refine sk hK102 ?_
  refine sr (fun _ hK122 => ?_)
  refine mv ?_
  refine vl (Y.fieldAddr 0 rfl fld29_0 rfl) ?_
  refine vl (Y.fieldAddr 0 rfl fld27_0 rfl) ?_
  refine lv 0 0 one3 ?_
  obtain ⟨t123, wt123, h⟩ := bind_some' h
  refine st (cl fb47 (proof_sides_ok x75 t95.len q77 wt123) (fun v124 S125 e126 z127 => ?_))
  replace q77 := q77.up e126
  obtain ⟨v128, v130, rfl, q129, q131⟩ := z127
  refine mv ?_
  refine vl (Y.extract _ rfl rfl) ?_
  refine vl (Y.extract _ rfl rfl) ?_
  refine an ?_
  refine an ?_
  refine nt hK122 ?_
  refine G.seq (fun _ hK132 => ?_)
  refine sr (fun _ hK133 => ?_)
  refine lb 4 0 1 [sL a1] row23 ?_
  refine vl (Y.fieldAddr 0 rfl fld29_0 rfl) ?_
  refine vl (Y.fieldAddr 0 rfl fld27_0 rfl) ?_
  refine lv 0 0 one3 ?_
  obtain ⟨t134, wt134, h⟩ := bind_some' h
  refine st (cl fb48 (bits_Bit_ok a1 t95.len wt134) (fun v135 S136 e137 z138 => ?_))
  replace q77 := q77.up e137
  replace q129 := q129.up e137
  replace q131 := q131.up e137
  obtain rfl := z138
  refine vl (Y.eqI rfl rfl) ?_
  refine nt hK133 ?_
  refine G.cond _ rfl (fun c139 => ?_) (fun c139 => ?_)
  ·replace h := ite_t c139 h
   refine G.region ?_
   refine mv ?_
   refine mv ?_
   refine an ?_
   refine an ?_
   refine nt hK132 ?_
   refine sr (fun _ hK140 => ?_)
   refine mv ?_
   refine mv ?_
   obtain ⟨t141, wt141, h⟩ := bind_some' h
   refine st (cl fb125 (proof_item_ok k t123.1 q129 wt141) (fun v142 S143 e144 z145 => ?_))
   replace q77 := q77.up e144
   replace q129 := q129.up e144
   replace q131 := q131.up e144
   obtain rfl := z145
   refine bs ([t141] : List Item) el32 (fun v146 => ?_)
   obtain ⟨g148, h⟩ := req_bind h
   refine st (OS.append (xs := x78) (ys := ([t141] : List Item)) 3 (by decide) rfl rfl rfl (Rw.src (k := 0) rfl) el32 src32 g148 (fun v149 => ?_))
   refine an ?_
   refine nt hK140 ?_
   refine G.region ?_
   refine mv ?_
   refine an ?_
   refine GO.nil ?_
   refine GX.normal_block ?_
   obtain rfl := Option.some.inj h
   refine GX.keep [8, 6, 4, 3] rfl ?_
   refine GX.less 3 rfl ?_
   exact hK1 _ _ _ _ rfl ⟨(l2 e74 (l2 e90 (l2 e98 (l2 e107 (l2 e126 (l2 e137 e144)))))), v130, v149, q131, rfl, rfl⟩
  replace h := ite_f c139 h
  refine sk hK132 ?_
  refine sr (fun _ hK150 => ?_)
  refine mv ?_
  refine mv ?_
  obtain ⟨t151, wt151, h⟩ := bind_some' h
  refine st (cl fb125 (proof_item_ok k t123.2 q131 wt151) (fun v152 S153 e154 z155 => ?_))
  replace q77 := q77.up e154
  replace q129 := q129.up e154
  replace q131 := q131.up e154
  obtain rfl := z155
  refine bs ([t151] : List Item) el32 (fun v156 => ?_)
  obtain ⟨g158, h⟩ := req_bind h
  refine st (OS.append (xs := x78) (ys := ([t151] : List Item)) 3 (by decide) rfl rfl rfl (Rw.src (k := 0) rfl) el32 src32 g158 (fun v159 => ?_))
  refine an ?_
  refine nt hK150 ?_
  refine G.region ?_
  refine mv ?_
  refine an ?_
  refine GO.nil ?_
  refine GX.normal_block ?_
  obtain rfl := Option.some.inj h
  refine GX.keep [8, 6, 4, 3] rfl ?_
  refine GX.less 3 rfl ?_
  exact hK1 _ _ _ _ rfl ⟨(l2 e74 (l2 e90 (l2 e98 (l2 e107 (l2 e126 (l2 e137 e154)))))), v128, v159, q129, rfl, rfl⟩
 replace h := ite_f c85 h
 refine G.exit ?_
 refine GX.exit_then ?_
 obtain rfl := Option.some.inj h
 refine GX.keep [8, 6, 4] rfl ?_
 exact hx80 _ _ _ ⟨_, _, _, _, e74, (hf1 _ rfl).symm, q77, rfl, rfl⟩

/- chirograph/proof.Read -/
def proof_Read_s1 (t76 : Int × Rd) : (Int × Str × Int × Int × (List Item)) → Option ((Int × Str × Int × Int × (List Item)) ⊕ (Proof × Int ⊕ (Int × Str × Int × Int × (List Item))))
 | (x151, x152, x153, x154, x155) => (if (decide (x151 < t76.1)) = true then ((code_Reader_Number (⟨x152, x153, x154⟩ : Rd)).bind fun t165 => ((code_Reader_Label t165.2).bind fun t170 => ((code_Reader_Label t170.2).bind fun t175 => ((code_Reader_Number t175.2).bind fun t180 => ((code_Reader_Done t180.2).bind fun t189 => ((if (t189.1 != (0 : Int)) = true then some (t189.1 != (3 : Int)) else some false).bind fun b195 => (if b195 = true then some (.inr (.inl ((⟨0, (⟨zL, zL, 0⟩ : Leaf), (⟨0, zL, zL, 0⟩ : Item), (⟨0, zL, zL, 0⟩ : Item), []⟩ : Proof), t189.1))) else ((node_Good (⟨t165.1, t170.1, t175.1, t180.1⟩ : Item)).bind fun t204 => (if (!t204) = true then some (.inr (.inl ((⟨0, (⟨zL, zL, 0⟩ : Leaf), (⟨0, zL, zL, 0⟩ : Item), (⟨0, zL, zL, 0⟩ : Item), []⟩ : Proof), (1 : Int)))) else ((req (List.length x155 + List.length ([(⟨t165.1, t170.1, t175.1, t180.1⟩ : Item)] : List Item) ≤ LIM)).bind fun _ => some (.inl ((wrap64 (x151 + (1 : Int))), t189.2.s, t189.2.at_, t189.2.err, (x155 ++ ([(⟨t165.1, t170.1, t175.1, t180.1⟩ : Item)] : List Item)))))))))))))) else some (.inr (.inr (x151, x152, x153, x154, x155))))

def proof_Read_s2 (t235 : Int × Rd) : (Int × Str × Int × Int × (List Item)) → Option ((Int × Str × Int × Int × (List Item)) ⊕ (Proof × Int ⊕ (Int × Str × Int × Int × (List Item))))
 | (x310, x311, x312, x313, x314) => (if (decide (x310 < t235.1)) = true then ((code_Reader_Number (⟨x311, x312, x313⟩ : Rd)).bind fun t324 => ((code_Reader_Label t324.2).bind fun t329 => ((code_Reader_Label t329.2).bind fun t334 => ((code_Reader_Number t334.2).bind fun t339 => ((code_Reader_Done t339.2).bind fun t348 => ((if (t348.1 != (0 : Int)) = true then some (t348.1 != (3 : Int)) else some false).bind fun b354 => (if b354 = true then some (.inr (.inl ((⟨0, (⟨zL, zL, 0⟩ : Leaf), (⟨0, zL, zL, 0⟩ : Item), (⟨0, zL, zL, 0⟩ : Item), []⟩ : Proof), t348.1))) else ((node_Good (⟨t324.1, t329.1, t334.1, t339.1⟩ : Item)).bind fun t363 => (if (!t363) = true then some (.inr (.inl ((⟨0, (⟨zL, zL, 0⟩ : Leaf), (⟨0, zL, zL, 0⟩ : Item), (⟨0, zL, zL, 0⟩ : Item), []⟩ : Proof), (1 : Int)))) else ((req (List.length x314 + List.length ([(⟨t324.1, t329.1, t334.1, t339.1⟩ : Item)] : List Item) ≤ LIM)).bind fun _ => some (.inl ((wrap64 (x310 + (1 : Int))), t348.2.s, t348.2.at_, t348.2.err, (x314 ++ ([(⟨t324.1, t329.1, t334.1, t339.1⟩ : Item)] : List Item)))))))))))))) else some (.inr (.inr (x310, x311, x312, x313, x314))))

def proof_Read  (a0 : Str) : Option (Proof × Int) :=
 ((code_Open a0).bind fun t5 => ((code_Reader_Below t5 (3 : Int)).bind fun t13 => (if (t13.1 != (0 : Int)) = true then ((code_Reader_Text t13.2).bind fun t24 => ((node_Read t24.1).bind fun t29 => ((code_Reader_Done t24.2).bind fun t36 => ((if (t36.1 != (0 : Int)) = true then some (t36.1 != (3 : Int)) else some false).bind fun b42 => (if b42 = true then some ((⟨0, (⟨zL, zL, 0⟩ : Leaf), (⟨0, zL, zL, 0⟩ : Item), (⟨0, zL, zL, 0⟩ : Item), []⟩ : Proof), t36.1) else (if (t29.2 != (0 : Int)) = true then some ((⟨0, (⟨zL, zL, 0⟩ : Leaf), (⟨0, zL, zL, 0⟩ : Item), (⟨0, zL, zL, 0⟩ : Item), []⟩ : Proof), t29.2) else ((node_AsLeaf t29.1).bind fun t55 => ((node_AsInner t29.1).bind fun t61 => ((if (!(t55.2 == (t13.1 == (1 : Int)))) = true then some true else some (!(t61.2 == (t13.1 == (2 : Int))))).bind fun b67 => (if b67 = true then some ((⟨0, (⟨zL, zL, 0⟩ : Leaf), (⟨0, zL, zL, 0⟩ : Item), (⟨0, zL, zL, 0⟩ : Item), []⟩ : Proof), (3 : Int)) else ((code_Reader_Below t36.2 (257 : Int)).bind fun t76 => ((iter (proof_Read_s1 t76) ((0 : Int), t76.2.s, t76.2.at_, t76.2.err, ([] : List Item))).bind fun b158 => (match b158 with | .inl r₀ => some r₀ | .inr (x151, x152, x153, x154, x155) => ((code_Reader_Done (⟨x152, x153, x154⟩ : Rd)).bind fun t220 => (if (t220.1 != (0 : Int)) = true then some ((⟨0, (⟨zL, zL, 0⟩ : Leaf), (⟨0, zL, zL, 0⟩ : Item), (⟨0, zL, zL, 0⟩ : Item), []⟩ : Proof), t220.1) else some ((⟨t13.1, t55.1, t61.1.l, t61.1.r, x155⟩ : Proof), (0 : Int))))))))))))))))) else ((code_Reader_Below t13.2 (257 : Int)).bind fun t235 => ((iter (proof_Read_s2 t235) ((0 : Int), t235.2.s, t235.2.at_, t235.2.err, ([] : List Item))).bind fun b317 => (match b317 with | .inl r₀ => some r₀ | .inr (x310, x311, x312, x313, x314) => ((code_Reader_Done (⟨x311, x312, x313⟩ : Rd)).bind fun t379 => (if (t379.1 != (0 : Int)) = true then some ((⟨0, (⟨zL, zL, 0⟩ : Leaf), (⟨0, zL, zL, 0⟩ : Item), (⟨0, zL, zL, 0⟩ : Item), []⟩ : Proof), t379.1) else some ((⟨t13.1, (⟨zL, zL, 0⟩ : Leaf), (⟨0, zL, zL, 0⟩ : Item), (⟨0, zL, zL, 0⟩ : Item), x314⟩ : Proof), (0 : Int))))))))))

theorem proof_Read_ok {S : Hp} (a0 : Str) {r : Proof × Int} (h : proof_Read a0 = some r) : Fn Tryz.prog 33 [strV a0] S (fun v S' => ∃ (v392 : Value), v = .tuple #[aggV [sV (.int .i64 r.1.end_), sL r.1.leaf.label, sL r.1.leaf.value, sV (.int .i64 r.1.leaf.at_), sV (.int .i64 r.1.a.len), sL r.1.a.bits, sL r.1.a.sum, sV (.int .i64 r.1.a.at_), sV (.int .i64 r.1.b.len), sL r.1.b.bits, sL r.1.b.sum, sV (.int .i64 r.1.b.at_), sV v392], .int .i64 r.2] ∧ Sls S' v392 r.1.path) := by
 unfold proof_Read at h
 refine fo [.cell 2 34, .tmp 3] 109 Tryz.func33 Tryz.ntmps33 (fun o F Q hQ hN hret => ?_)
 refine sr (fun _ hK1 => ?_)
 refine st (OS.alloc _ (by decide) zero34 (fun ad2 => ?_))
 refine an ?_
 refine nt hK1 ?_
 refine sr (fun _ hK4 => ?_)
 refine mv ?_
 obtain ⟨t5, wt5, h⟩ := bind_some' h
 refine st (OS.callN _ (by decide) rfl fb85 (code_Open_ok a0 wt5) (fun v6 S7 _ e8 z9 => ?_))
 obtain ⟨ad10, rfl, rfl⟩ := z9
 refine an ?_
 refine nt hK4 ?_
 refine sr (fun _ hK12 => ?_)
 refine mv ?_
 obtain ⟨t13, wt13, h⟩ := bind_some' h
 refine st (OS.callP 0 _ (by decide) rfl fb86 rfl (code_Reader_Below_ok t5 (3 : Int) wt13) (fun v14 S15 _ e16 z17 => ?_))
 obtain ⟨rfl, rfl⟩ := z17
 refine vl (Y.buildE _ [sV (.int .i64 t13.1), sL zL, sL zL, sV (.int .i64 0), sV (.int .i64 0), sL zL, sL zL, sV (.int .i64 0), sV (.int .i64 0), sL zL, sL zL, sV (.int .i64 0), sV (.slice none 0 0)] strt34 zero34 rfl (.cons 0 1 [sV (.int .i64 t13.1)] rfl rfl rfl rfl rfl .nil)) ?_
 refine st (OS.alloc _ (by decide) zero34 (fun ad18 => ?_))
 refine sf 0 13 [sV (.int .i64 t13.1), sL zL, sL zL, sV (.int .i64 0), sV (.int .i64 0), sL zL, sL zL, sV (.int .i64 0), sV (.int .i64 0), sL zL, sL zL, sV (.int .i64 0), sV (.slice none 0 0)] (aggV_cells _) (oI (oL (oL (oI (oI (oL (oL (oI (oI (oL (oL (oI (oI oN))))))))))))) size34 ?_
 refine nt hK12 ?_
 refine G.seq (fun _ hK20 => ?_)
 refine sr (fun _ hK21 => ?_)
 refine vl (Y.fieldAddr 0 rfl fld34_0 rfl) ?_
 refine lv 0 0 one3 ?_
 refine vl (Y.neI rfl rfl) ?_
 refine nt hK21 ?_
 refine G.cond _ rfl (fun c22 => ?_) (fun c22 => ?_)
 ·replace h := ite_t c22 h
  refine sr (fun _ hK23 => ?_)
  refine mv ?_
  obtain ⟨t24, wt24, h⟩ := bind_some' h
  refine st (OS.callP 1 _ (by decide) rfl fb88 rfl (code_Reader_Text_ok t13.2 wt24) (fun v25 S26 _ e27 z28 => ?_))
  obtain ⟨rfl, rfl⟩ := z28
  obtain ⟨t29, wt29, h⟩ := bind_some' h
  refine st (cl fb87 (node_Read_ok t24.1 wt29) (fun v30 S31 e32 z33 => ?_))
  obtain rfl := z33
  refine mv ?_
  refine vl (Y.extract _ rfl rfl) ?_
  refine vl (Y.extract _ rfl rfl) ?_
  refine an ?_
  refine an ?_
  refine nt hK23 ?_
  refine G.seq (fun _ hK34 => ?_)
  refine sr (fun _ hK35 => ?_)
  refine mv ?_
  obtain ⟨t36, wt36, h⟩ := bind_some' h
  refine st (OS.callP 1 _ (by decide) rfl fb89 rfl (code_Reader_Done_ok t24.2 wt36) (fun v37 S38 _ e39 z40 => ?_))
  obtain ⟨rfl, rfl⟩ := z40
  refine an ?_
  refine nt hK35 ?_
  refine sr (fun _ hK41 => ?_)
  refine mv ?_
  refine vl (Y.neI rfl rfl) ?_
  refine mv ?_
  obtain ⟨b42, wb42, h⟩ := bind_some' h
  refine GO.joinB 3 35 (b42 = ·) (fun K44 hK44 => ?_) ?_
  ·replace h := wb42
   rcases Bool.eq_false_or_eq_true (t36.1 != (0 : Int)) with c43 | c43
   ·replace h := ite_t c43 h
    refine gv 32 c43 (Y.move rfl) ?_
    refine gv 32 c43 (Y.neI rfl rfl) ?_
    refine vl (Y.pickT _ c43 rfl rfl) ?_
    refine GO.nil ?_
    refine p2 (p2 ?_)
    exact hK44 _ _ l0 (Option.some.inj h).symm
   replace h := ite_f c43 h
   refine gf 32 c43 ?_
   refine gf 32 c43 ?_
   refine vl (Y.pickF _ c43 rfl rfl) ?_
   refine GO.nil ?_
   refine p2 (p2 ?_)
   exact hK44 _ _ l0 (Option.some.inj h).symm
  rintro _ S45 e46 rfl
  refine nt hK41 ?_
  refine G.cond _ rfl (fun c47 => ?_) (fun c47 => ?_)
  ·replace h := ite_t c47 h
   refine sr (fun _ hK48 => ?_)
   refine vl (Y.buildE _ [sV (.int .i64 0), sL zL, sL zL, sV (.int .i64 0), sV (.int .i64 0), sL zL, sL zL, sV (.int .i64 0), sV (.int .i64 0), sL zL, sL zL, sV (.int .i64 0), sV (.slice none 0 0)] strt34 zero34 rfl .nil) ?_
   refine mv ?_
   refine sf 2 13 [sV (.int .i64 0), sL zL, sL zL, sV (.int .i64 0), sV (.int .i64 0), sL zL, sL zL, sV (.int .i64 0), sV (.int .i64 0), sL zL, sL zL, sV (.int .i64 0), sV (.slice none 0 0)] (aggV_cells _) (oI (oL (oL (oI (oI (oL (oL (oI (oI (oL (oL (oI (oI oN))))))))))))) size34 ?_
   refine an ?_
   refine nt hK48 ?_
   refine G.ret ?_
   obtain rfl := Option.some.inj h
   exact hret _ _ _ _ 3 (l2 e8 (l2 e16 (l2 e27 (l2 e32 (l2 e39 e46))))) (.cons (.row (k := 2) rfl rfl row34 (by kernel_rfl)) (.cons (.tmp rfl) .nil)) ⟨_, rfl, (Sls.nil (α := Item) _)⟩ rfl
  replace h := ite_f c47 h
  refine sk hK34 ?_
  refine G.seq (fun _ hK49 => ?_)
  refine sr (fun _ hK50 => ?_)
  refine mv ?_
  refine vl (Y.neI rfl rfl) ?_
  refine nt hK50 ?_
  refine G.cond _ rfl (fun c51 => ?_) (fun c51 => ?_)
  ·replace h := ite_t c51 h
   refine sr (fun _ hK52 => ?_)
   refine vl (Y.buildE _ [sV (.int .i64 0), sL zL, sL zL, sV (.int .i64 0), sV (.int .i64 0), sL zL, sL zL, sV (.int .i64 0), sV (.int .i64 0), sL zL, sL zL, sV (.int .i64 0), sV (.slice none 0 0)] strt34 zero34 rfl .nil) ?_
   refine mv ?_
   refine sf 2 13 [sV (.int .i64 0), sL zL, sL zL, sV (.int .i64 0), sV (.int .i64 0), sL zL, sL zL, sV (.int .i64 0), sV (.int .i64 0), sL zL, sL zL, sV (.int .i64 0), sV (.slice none 0 0)] (aggV_cells _) (oI (oL (oL (oI (oI (oL (oL (oI (oI (oL (oL (oI (oI oN))))))))))))) size34 ?_
   refine an ?_
   refine nt hK52 ?_
   refine G.ret ?_
   obtain rfl := Option.some.inj h
   exact hret _ _ _ _ 3 (l2 e8 (l2 e16 (l2 e27 (l2 e32 (l2 e39 e46))))) (.cons (.row (k := 2) rfl rfl row34 (by kernel_rfl)) (.cons (.tmp rfl) .nil)) ⟨_, rfl, (Sls.nil (α := Item) _)⟩ rfl
  replace h := ite_f c51 h
  refine sk hK49 ?_
  refine sr (fun _ hK53 => ?_)
  refine an ?_
  refine an ?_
  refine nt hK53 ?_
  refine sr (fun _ hK54 => ?_)
  refine mv ?_
  obtain ⟨t55, wt55, h⟩ := bind_some' h
  refine st (cl fb90 (node_AsLeaf_ok t29.1 wt55) (fun v56 S57 e58 z59 => ?_))
  obtain rfl := z59
  refine mv ?_
  refine vl (Y.extract _ rfl rfl) ?_
  refine vl (Y.extract _ rfl rfl) ?_
  refine vl (Y.fieldAddr 1 rfl fld34_1 rfl) ?_
  refine so 0 1 3 [sV (.int .i64 t13.1), sL t55.1.label, sL t55.1.value, sV (.int .i64 t55.1.at_), sV (.int .i64 0), sL zL, sL zL, sV (.int .i64 0), sV (.int .i64 0), sL zL, sL zL, sV (.int .i64 0), sV (.slice none 0 0)] (r := [sL t55.1.label, sL t55.1.value, sV (.int .i64 t55.1.at_)]) (aggV_cells _) (oL (oL (oI oN))) size25 ?_
  refine an ?_
  refine nt hK54 ?_
  refine sr (fun _ hK60 => ?_)
  refine mv ?_
  obtain ⟨t61, wt61, h⟩ := bind_some' h
  refine st (cl fb91 (node_AsInner_ok t29.1 wt61) (fun v62 S63 e64 z65 => ?_))
  obtain rfl := z65
  refine mv ?_
  refine vl (Y.extract _ rfl rfl) ?_
  refine vl (Y.extract _ rfl rfl) ?_
  refine vl (Y.fieldAddr 66 rfl fld34_2 rfl) ?_
  refine so 0 4 8 [sV (.int .i64 t13.1), sL t55.1.label, sL t55.1.value, sV (.int .i64 t55.1.at_), sV (.int .i64 t61.1.l.len), sL t61.1.l.bits, sL t61.1.l.sum, sV (.int .i64 t61.1.l.at_), sV (.int .i64 t61.1.r.len), sL t61.1.r.bits, sL t61.1.r.sum, sV (.int .i64 t61.1.r.at_), sV (.slice none 0 0)] (r := [sV (.int .i64 t61.1.l.len), sL t61.1.l.bits, sL t61.1.l.sum, sV (.int .i64 t61.1.l.at_), sV (.int .i64 t61.1.r.len), sL t61.1.r.bits, sL t61.1.r.sum, sV (.int .i64 t61.1.r.at_)]) (aggV_cells _) (oI (oL (oL (oI (oI (oL (oL (oI oN)))))))) size31 ?_
  refine an ?_
  refine nt hK60 ?_
  refine sr (fun _ hK66 => ?_)
  refine mv ?_
  refine vl (Y.fieldAddr 0 rfl fld34_0 rfl) ?_
  refine lv 0 0 one3 ?_
  refine vl (Y.eqI rfl rfl) ?_
  refine vl (Y.neB rfl rfl Tryz.underlying4) ?_
  refine mv ?_
  obtain ⟨b67, wb67, h⟩ := bind_some' h
  refine GO.joinB 6 65 (b67 = ·) (fun K69 hK69 => ?_) ?_
  ·replace h := wb67
   rcases Bool.eq_false_or_eq_true (!(t55.2 == (t13.1 == (1 : Int)))) with c68 | c68
   ·replace h := ite_t c68 h
    refine gf 59 c68 ?_
    refine gf 59 c68 ?_
    refine gf 59 c68 ?_
    refine gf 59 c68 ?_
    refine gf 59 c68 ?_
    refine vl (Y.pickT _ c68 rfl rfl) ?_
    refine GO.nil ?_
    refine p2 (p2 (p2 (p2 (p2 ?_))))
    exact hK69 _ _ l0 (Option.some.inj h).symm
   replace h := ite_f c68 h
   refine gv 59 c68 (Y.move rfl) ?_
   refine gv 59 c68 (Y.fieldAddr 0 rfl fld34_0 rfl) ?_
   refine gv 59 c68 (Y.loadV 0  0 _ rfl rfl rfl rfl one3) ?_
   refine gv 59 c68 (Y.eqI rfl rfl) ?_
   refine gv 59 c68 (Y.neB rfl rfl Tryz.underlying4) ?_
   refine vl (Y.pickF _ c68 rfl rfl) ?_
   refine GO.nil ?_
   refine p2 (p2 (p2 (p2 (p2 ?_))))
   exact hK69 _ _ l0 (Option.some.inj h).symm
  rintro _ S70 e71 rfl
  refine nt hK66 ?_
  refine G.cond _ rfl (fun c72 => ?_) (fun c72 => ?_)
  ·replace h := ite_t c72 h
   refine sr (fun _ hK73 => ?_)
   refine vl (Y.buildE _ [sV (.int .i64 0), sL zL, sL zL, sV (.int .i64 0), sV (.int .i64 0), sL zL, sL zL, sV (.int .i64 0), sV (.int .i64 0), sL zL, sL zL, sV (.int .i64 0), sV (.slice none 0 0)] strt34 zero34 rfl .nil) ?_
   refine sf 2 13 [sV (.int .i64 0), sL zL, sL zL, sV (.int .i64 0), sV (.int .i64 0), sL zL, sL zL, sV (.int .i64 0), sV (.int .i64 0), sL zL, sL zL, sV (.int .i64 0), sV (.slice none 0 0)] (aggV_cells _) (oI (oL (oL (oI (oI (oL (oL (oI (oI (oL (oL (oI (oI oN))))))))))))) size34 ?_
   refine an ?_
   refine nt hK73 ?_
   refine G.ret ?_
   obtain rfl := Option.some.inj h
   exact hret _ _ _ _ 3 (l2 e8 (l2 e16 (l2 e27 (l2 e32 (l2 e39 (l2 e46 (l2 e58 (l2 e64 e71)))))))) (.cons (.row (k := 2) rfl rfl row34 (by kernel_rfl)) (.cons (.tmp rfl) .nil)) ⟨_, rfl, (Sls.nil (α := Item) _)⟩ rfl
  replace h := ite_f c72 h
  refine sk hK20 ?_
  refine G.seq (fun _ hK74 => ?_)
  refine sr (fun _ hK75 => ?_)
  refine mv ?_
  obtain ⟨t76, wt76, h⟩ := bind_some' h
  refine st (OS.callP 1 _ (by decide) rfl fb86 rfl (code_Reader_Below_ok t36.2 (257 : Int) wt76) (fun v77 S78 _ e79 z80 => ?_))
  obtain ⟨rfl, rfl⟩ := z80
  refine mv ?_
  refine nt hK75 ?_
  refine G.block ?_
  refine G.nilRow (α := Item) ?_
  obtain ⟨b158, wb158, ho159⟩ := bind_some' h
  refine G.keep [69, 68, 5, 4, 2] rfl ?_
  refine G.loopK (proof_Read_s1 t76) (fun s₀ E' S' L' => match s₀ with | (x151, x152, x153, x154, x155) => S78.le S' ∧ ∃ (v156 : Value), E' = [(69, .int .i64 x151), (68, .int .i64 t76.1), (5, .pointer (some ⟨ad18, 0, none⟩)), (4, .pointer (some ⟨ad10, 0, none⟩)), (2, .pointer (some ⟨ad2, 0, none⟩))] ∧ Rw v156 x155 :: Blk ad18 [sV (.int .i64 t13.1), sL t55.1.label, sL t55.1.value, sV (.int .i64 t55.1.at_), sV (.int .i64 t61.1.l.len), sL t61.1.l.bits, sL t61.1.l.sum, sV (.int .i64 t61.1.l.at_), sV (.int .i64 t61.1.r.len), sL t61.1.r.bits, sL t61.1.r.sum, sV (.int .i64 t61.1.r.at_), sV v156] :: Blk ad10 [sV (strV x152), sV (.int .i64 x153), sV (.int .i64 x154)] :: Blk ad2 [sV (.int .i64 0), sL zL, sL zL, sV (.int .i64 0), sV (.int .i64 0), sL zL, sL zL, sV (.int .i64 0), sV (.int .i64 0), sL zL, sL zL, sV (.int .i64 0), sV (.slice none 0 0)] :: F = L') b158 0 (fun E₀ S₀ L₀ => ∃ (x151 : Int) (x152 : Str) (x153 : Int) (x154 : Int) (x155 : (List Item)) (v156 : Value), S78.le S₀ ∧ b158 = .inr (x151, x152, x153, x154, x155) ∧ E₀ = [(5, .pointer (some ⟨ad18, 0, none⟩)), (4, .pointer (some ⟨ad10, 0, none⟩)), (2, .pointer (some ⟨ad2, 0, none⟩))] ∧ Rw v156 x155 :: Blk ad18 [sV (.int .i64 t13.1), sL t55.1.label, sL t55.1.value, sV (.int .i64 t55.1.at_), sV (.int .i64 t61.1.l.len), sL t61.1.l.bits, sL t61.1.l.sum, sV (.int .i64 t61.1.l.at_), sV (.int .i64 t61.1.r.len), sL t61.1.r.bits, sL t61.1.r.sum, sV (.int .i64 t61.1.r.at_), sV v156] :: Blk ad10 [sV (strV x152), sV (.int .i64 x153), sV (.int .i64 x154)] :: Blk ad2 [sV (.int .i64 0), sL zL, sL zL, sV (.int .i64 0), sV (.int .i64 0), sL zL, sL zL, sV (.int .i64 0), sV (.int .i64 0), sL zL, sL zL, sV (.int .i64 0), sV (.slice none 0 0)] :: F = L₀) wb158 ?_ ?_ ?_
  ·rintro _ S216 _ ⟨x151, x152, x153, x154, x155, v156, e217, rfl, rfl, rfl⟩
   have h := ho159; clear ho159
   try dsimp only at h
   refine GX.exit_block ?_
   refine GX.then hK74 ?_
   refine G.seq (fun _ hK218 => ?_)
   refine sr (fun _ hK219 => ?_)
   refine mv ?_
   obtain ⟨t220, wt220, h⟩ := bind_some' h
   refine st (OS.callP 2 _ (by decide) rfl fb89 rfl (code_Reader_Done_ok (⟨x152, x153, x154⟩ : Rd) wt220) (fun v221 S222 _ e223 z224 => ?_))
   obtain ⟨rfl, rfl⟩ := z224
   refine an ?_
   refine nt hK219 ?_
   refine sr (fun _ hK225 => ?_)
   refine mv ?_
   refine vl (Y.neI rfl rfl) ?_
   refine nt hK225 ?_
   refine G.cond _ rfl (fun c226 => ?_) (fun c226 => ?_)
   ·replace h := ite_t c226 h
    refine sr (fun _ hK227 => ?_)
    refine vl (Y.buildE _ [sV (.int .i64 0), sL zL, sL zL, sV (.int .i64 0), sV (.int .i64 0), sL zL, sL zL, sV (.int .i64 0), sV (.int .i64 0), sL zL, sL zL, sV (.int .i64 0), sV (.slice none 0 0)] strt34 zero34 rfl .nil) ?_
    refine mv ?_
    refine sf 3 13 [sV (.int .i64 0), sL zL, sL zL, sV (.int .i64 0), sV (.int .i64 0), sL zL, sL zL, sV (.int .i64 0), sV (.int .i64 0), sL zL, sL zL, sV (.int .i64 0), sV (.slice none 0 0)] (aggV_cells _) (oI (oL (oL (oI (oI (oL (oL (oI (oI (oL (oL (oI (oI oN))))))))))))) size34 ?_
    refine an ?_
    refine nt hK227 ?_
    refine G.ret ?_
    obtain rfl := Option.some.inj h
    exact hret _ _ _ _ 4 (l2 e8 (l2 e16 (l2 e27 (l2 e32 (l2 e39 (l2 e46 (l2 e58 (l2 e64 (l2 e71 (l2 e79 (l2 e217 e223))))))))))) (.cons (.row (k := 3) rfl rfl row34 (by kernel_rfl)) (.cons (.tmp rfl) .nil)) ⟨_, rfl, (Sls.nil (α := Item) _)⟩ rfl
   replace h := ite_f c226 h
   refine sk hK218 ?_
   refine sr (fun _ hK228 => ?_)
   refine lb 1 0 13 [sV (.int .i64 t13.1), sL t55.1.label, sL t55.1.value, sV (.int .i64 t55.1.at_), sV (.int .i64 t61.1.l.len), sL t61.1.l.bits, sL t61.1.l.sum, sV (.int .i64 t61.1.l.at_), sV (.int .i64 t61.1.r.len), sL t61.1.r.bits, sL t61.1.r.sum, sV (.int .i64 t61.1.r.at_), sV v156] row34 ?_
   refine GO.rowOne 0 rfl (fun z229 => ?_)
   refine sf 3 13 [sV (.int .i64 t13.1), sL t55.1.label, sL t55.1.value, sV (.int .i64 t55.1.at_), sV (.int .i64 t61.1.l.len), sL t61.1.l.bits, sL t61.1.l.sum, sV (.int .i64 t61.1.l.at_), sV (.int .i64 t61.1.r.len), sL t61.1.r.bits, sL t61.1.r.sum, sV (.int .i64 t61.1.r.at_), sV v156] (aggV_cells _) (oI (oL (oL (oI (oI (oL (oL (oI (oI (oL (oL (oI (oV (z229) oN))))))))))))) size34 ?_
   refine an ?_
   refine nt hK228 ?_
   refine G.ret ?_
   refine GX.shareR 0 rfl (fun S230 e231 q232 => ?_)
   obtain rfl := Option.some.inj h
   exact hret _ _ _ _ 4 (l2 e8 (l2 e16 (l2 e27 (l2 e32 (l2 e39 (l2 e46 (l2 e58 (l2 e64 (l2 e71 (l2 e79 (l2 e217 (l2 e223 e231)))))))))))) (.cons (.row (k := 3) rfl rfl row34 (by kernel_rfl)) (.cons (.tmp rfl) .nil)) ⟨_, rfl, q232⟩ rfl
  ·exact ⟨Hp.le_refl _, (.slice none 0 0), rfl, rfl⟩
  rintro ⟨x151, x152, x153, x154, x155⟩ _ S149 _ ⟨e150, v156, rfl, rfl⟩ out1 h hf1 K1 hK1 hx157
  rw [proof_Read_s1] at h
  refine sr (fun _ hK160 => ?_)
  refine vl (Y.ltI rfl rfl) ?_
  refine nt hK160 ?_
  refine G.seq (fun _ hK161 => ?_)
  refine G.cond _ rfl (fun c162 => ?_) (fun c162 => ?_)
  ·replace h := ite_t c162 h
   refine sk hK161 ?_
   refine G.seq (fun _ hK163 => ?_)
   refine G.block ?_
   refine sr (fun _ hK164 => ?_)
   refine mv ?_
   obtain ⟨t165, wt165, h⟩ := bind_some' h
   refine st (OS.callP 2 _ (by decide) rfl fb92 rfl (code_Reader_Number_ok (⟨x152, x153, x154⟩ : Rd) wt165) (fun v166 S167 _ e168 z169 => ?_))
   obtain ⟨rfl, rfl⟩ := z169
   refine mv ?_
   obtain ⟨t170, wt170, h⟩ := bind_some' h
   refine st (OS.callP 2 _ (by decide) rfl fb93 rfl (code_Reader_Label_ok t165.2 wt170) (fun v171 S172 _ e173 z174 => ?_))
   obtain ⟨rfl, rfl⟩ := z174
   refine vl (Y.buildE _ [sV (.int .i64 t165.1), sL t170.1] strt27 zero27 rfl (.cons 0 1 [sV (.int .i64 t165.1)] rfl rfl rfl rfl rfl (.cons 1 1 [sL t170.1] rfl (aggV_cells _) rfl rfl rfl .nil))) ?_
   refine mv ?_
   obtain ⟨t175, wt175, h⟩ := bind_some' h
   refine st (OS.callP 2 _ (by decide) rfl fb93 rfl (code_Reader_Label_ok t170.2 wt175) (fun v176 S177 _ e178 z179 => ?_))
   obtain ⟨rfl, rfl⟩ := z179
   refine mv ?_
   obtain ⟨t180, wt180, h⟩ := bind_some' h
   refine st (OS.callP 2 _ (by decide) rfl fb92 rfl (code_Reader_Number_ok t175.2 wt180) (fun v181 S182 _ e183 z184 => ?_))
   obtain ⟨rfl, rfl⟩ := z184
   refine vl (Y.buildE _ [sV (.int .i64 t165.1), sL t170.1, sL t175.1, sV (.int .i64 t180.1)] strt29 zero29 rfl (.cons 0 2 [sV (.int .i64 t165.1), sL t170.1] rfl (aggV_cells _) rfl rfl rfl (.cons 2 1 [sL t175.1] rfl (aggV_cells _) rfl rfl rfl (.cons 3 1 [sV (.int .i64 t180.1)] rfl rfl rfl rfl rfl .nil)))) ?_
   refine st (OS.alloc _ (by decide) zero29 (fun ad185 => ?_))
   refine sf 0 4 [sV (.int .i64 t165.1), sL t170.1, sL t175.1, sV (.int .i64 t180.1)] (aggV_cells _) (oI (oL (oL (oI oN)))) size29 ?_
   refine nt hK164 ?_
   refine G.seq (fun _ hK187 => ?_)
   refine sr (fun _ hK188 => ?_)
   refine mv ?_
   obtain ⟨t189, wt189, h⟩ := bind_some' h
   refine st (OS.callP 3 _ (by decide) rfl fb89 rfl (code_Reader_Done_ok t180.2 wt189) (fun v190 S191 _ e192 z193 => ?_))
   obtain ⟨rfl, rfl⟩ := z193
   refine an ?_
   refine nt hK188 ?_
   refine sr (fun _ hK194 => ?_)
   refine mv ?_
   refine vl (Y.neI rfl rfl) ?_
   refine mv ?_
   obtain ⟨b195, wb195, h⟩ := bind_some' h
   refine GO.joinB 3 88 (b195 = ·) (fun K197 hK197 => ?_) ?_
   ·replace h := wb195
    rcases Bool.eq_false_or_eq_true (t189.1 != (0 : Int)) with c196 | c196
    ·replace h := ite_t c196 h
     refine gv 85 c196 (Y.move rfl) ?_
     refine gv 85 c196 (Y.neI rfl rfl) ?_
     refine vl (Y.pickT _ c196 rfl rfl) ?_
     refine GO.nil ?_
     refine p2 (p2 ?_)
     exact hK197 _ _ l0 (Option.some.inj h).symm
    replace h := ite_f c196 h
    refine gf 85 c196 ?_
    refine gf 85 c196 ?_
    refine vl (Y.pickF _ c196 rfl rfl) ?_
    refine GO.nil ?_
    refine p2 (p2 ?_)
    exact hK197 _ _ l0 (Option.some.inj h).symm
   rintro _ S198 e199 rfl
   refine nt hK194 ?_
   refine G.cond _ rfl (fun c200 => ?_) (fun c200 => ?_)
   ·replace h := ite_t c200 h
    refine sr (fun _ hK201 => ?_)
    refine vl (Y.buildE _ [sV (.int .i64 0), sL zL, sL zL, sV (.int .i64 0), sV (.int .i64 0), sL zL, sL zL, sV (.int .i64 0), sV (.int .i64 0), sL zL, sL zL, sV (.int .i64 0), sV (.slice none 0 0)] strt34 zero34 rfl .nil) ?_
    refine mv ?_
    refine sf 4 13 [sV (.int .i64 0), sL zL, sL zL, sV (.int .i64 0), sV (.int .i64 0), sL zL, sL zL, sV (.int .i64 0), sV (.int .i64 0), sL zL, sL zL, sV (.int .i64 0), sV (.slice none 0 0)] (aggV_cells _) (oI (oL (oL (oI (oI (oL (oL (oI (oI (oL (oL (oI (oI oN))))))))))))) size34 ?_
    refine an ?_
    refine nt hK201 ?_
    refine G.ret ?_
    obtain rfl := Option.some.inj h
    obtain rfl := hf1 _ rfl
    have h := ho159
    try dsimp only at h
    obtain rfl := Option.some.inj h
    exact hret _ _ _ _ 5 (l2 e8 (l2 e16 (l2 e27 (l2 e32 (l2 e39 (l2 e46 (l2 e58 (l2 e64 (l2 e71 (l2 e79 (l2 e150 (l2 e168 (l2 e173 (l2 e178 (l2 e183 (l2 e192 e199)))))))))))))))) (.cons (.row (k := 4) rfl rfl row34 (by kernel_rfl)) (.cons (.tmp rfl) .nil)) ⟨_, rfl, (Sls.nil (α := Item) _)⟩ rfl
   replace h := ite_f c200 h
   refine sk hK187 ?_
   refine G.seq (fun _ hK202 => ?_)
   refine sr (fun _ hK203 => ?_)
   refine lb 0 0 4 [sV (.int .i64 t165.1), sL t170.1, sL t175.1, sV (.int .i64 t180.1)] row29 ?_
   obtain ⟨t204, wt204, h⟩ := bind_some' h
   refine st (cl fb94 (node_Good_ok (⟨t165.1, t170.1, t175.1, t180.1⟩ : Item) wt204) (fun v205 S206 e207 z208 => ?_))
   obtain rfl := z208
   refine vl (Y.not rfl) ?_
   refine nt hK203 ?_
   refine G.cond _ rfl (fun c209 => ?_) (fun c209 => ?_)
   ·replace h := ite_t c209 h
    refine sr (fun _ hK210 => ?_)
    refine vl (Y.buildE _ [sV (.int .i64 0), sL zL, sL zL, sV (.int .i64 0), sV (.int .i64 0), sL zL, sL zL, sV (.int .i64 0), sV (.int .i64 0), sL zL, sL zL, sV (.int .i64 0), sV (.slice none 0 0)] strt34 zero34 rfl .nil) ?_
    refine sf 4 13 [sV (.int .i64 0), sL zL, sL zL, sV (.int .i64 0), sV (.int .i64 0), sL zL, sL zL, sV (.int .i64 0), sV (.int .i64 0), sL zL, sL zL, sV (.int .i64 0), sV (.slice none 0 0)] (aggV_cells _) (oI (oL (oL (oI (oI (oL (oL (oI (oI (oL (oL (oI (oI oN))))))))))))) size34 ?_
    refine an ?_
    refine nt hK210 ?_
    refine G.ret ?_
    obtain rfl := Option.some.inj h
    obtain rfl := hf1 _ rfl
    have h := ho159
    try dsimp only at h
    obtain rfl := Option.some.inj h
    exact hret _ _ _ _ 5 (l2 e8 (l2 e16 (l2 e27 (l2 e32 (l2 e39 (l2 e46 (l2 e58 (l2 e64 (l2 e71 (l2 e79 (l2 e150 (l2 e168 (l2 e173 (l2 e178 (l2 e183 (l2 e192 (l2 e199 e207))))))))))))))))) (.cons (.row (k := 4) rfl rfl row34 (by kernel_rfl)) (.cons (.tmp rfl) .nil)) ⟨_, rfl, (Sls.nil (α := Item) _)⟩ rfl
   replace h := ite_f c209 h
   refine sk hK202 ?_
   refine G.region ?_
   refine vl (Y.fieldAddr 198 rfl fld34_3 rfl) ?_
   refine lv 2 12 one32 ?_
   refine lb 0 0 4 [sV (.int .i64 t165.1), sL t170.1, sL t175.1, sV (.int .i64 t180.1)] row29 ?_
   refine bs ([(⟨t165.1, t170.1, t175.1, t180.1⟩ : Item)] : List Item) el32 (fun v211 => ?_)
   obtain ⟨g213, h⟩ := req_bind h
   refine st (OS.append (xs := x155) (ys := ([(⟨t165.1, t170.1, t175.1, t180.1⟩ : Item)] : List Item)) 2 (by decide) rfl rfl rfl (Rw.src (k := 0) rfl) el32 src32 g213 (fun v214 => ?_))
   refine vl (Y.fieldAddr 198 rfl fld34_3 rfl) ?_
   refine GO.rowOne 2 rfl (fun z215 => ?_)
   refine so 3 12 1 [sV (.int .i64 t13.1), sL t55.1.label, sL t55.1.value, sV (.int .i64 t55.1.at_), sV (.int .i64 t61.1.l.len), sL t61.1.l.bits, sL t61.1.l.sum, sV (.int .i64 t61.1.l.at_), sV (.int .i64 t61.1.r.len), sL t61.1.r.bits, sL t61.1.r.sum, sV (.int .i64 t61.1.r.at_), sV v214] (r := [sV v214]) (cells_one z215) (oV (z215) oN) size32 ?_
   refine GO.nil ?_
   refine GX.normal_block ?_
   refine GX.then hK163 ?_
   refine G.region ?_
   refine vl (Y.addI rfl rfl) ?_
   refine mv ?_
   refine GO.nil ?_
   obtain rfl := Option.some.inj h
   refine GX.keep [69, 68, 5, 4, 2] rfl ?_
   refine GX.less 2 rfl ?_
   exact hK1 _ _ _ _ rfl ⟨(l2 e150 (l2 e168 (l2 e173 (l2 e178 (l2 e183 (l2 e192 (l2 e199 e207))))))), v214, rfl, rfl⟩
  replace h := ite_f c162 h
  refine G.exit ?_
  refine GX.exit_then ?_
  obtain rfl := Option.some.inj h
  refine GX.keep [5, 4, 2] rfl ?_
  exact hx157 _ _ _ ⟨_, _, _, _, _, _, e150, (hf1 _ rfl).symm, rfl, rfl⟩
 replace h := ite_f c22 h
 refine sk hK20 ?_
 refine G.seq (fun _ hK233 => ?_)
 refine sr (fun _ hK234 => ?_)
 refine mv ?_
 obtain ⟨t235, wt235, h⟩ := bind_some' h
 refine st (OS.callP 1 _ (by decide) rfl fb86 rfl (code_Reader_Below_ok t13.2 (257 : Int) wt235) (fun v236 S237 _ e238 z239 => ?_))
 obtain ⟨rfl, rfl⟩ := z239
 refine mv ?_
 refine nt hK234 ?_
 refine G.block ?_
 refine G.nilRow (α := Item) ?_
 obtain ⟨b317, wb317, ho318⟩ := bind_some' h
 refine G.keep [69, 68, 5, 4, 2] rfl ?_
 refine G.loopK (proof_Read_s2 t235) (fun s₀ E' S' L' => match s₀ with | (x310, x311, x312, x313, x314) => S237.le S' ∧ ∃ (v315 : Value), E' = [(69, .int .i64 x310), (68, .int .i64 t235.1), (5, .pointer (some ⟨ad18, 0, none⟩)), (4, .pointer (some ⟨ad10, 0, none⟩)), (2, .pointer (some ⟨ad2, 0, none⟩))] ∧ Rw v315 x314 :: Blk ad18 [sV (.int .i64 t13.1), sL zL, sL zL, sV (.int .i64 0), sV (.int .i64 0), sL zL, sL zL, sV (.int .i64 0), sV (.int .i64 0), sL zL, sL zL, sV (.int .i64 0), sV v315] :: Blk ad10 [sV (strV x311), sV (.int .i64 x312), sV (.int .i64 x313)] :: Blk ad2 [sV (.int .i64 0), sL zL, sL zL, sV (.int .i64 0), sV (.int .i64 0), sL zL, sL zL, sV (.int .i64 0), sV (.int .i64 0), sL zL, sL zL, sV (.int .i64 0), sV (.slice none 0 0)] :: F = L') b317 0 (fun E₀ S₀ L₀ => ∃ (x310 : Int) (x311 : Str) (x312 : Int) (x313 : Int) (x314 : (List Item)) (v315 : Value), S237.le S₀ ∧ b317 = .inr (x310, x311, x312, x313, x314) ∧ E₀ = [(5, .pointer (some ⟨ad18, 0, none⟩)), (4, .pointer (some ⟨ad10, 0, none⟩)), (2, .pointer (some ⟨ad2, 0, none⟩))] ∧ Rw v315 x314 :: Blk ad18 [sV (.int .i64 t13.1), sL zL, sL zL, sV (.int .i64 0), sV (.int .i64 0), sL zL, sL zL, sV (.int .i64 0), sV (.int .i64 0), sL zL, sL zL, sV (.int .i64 0), sV v315] :: Blk ad10 [sV (strV x311), sV (.int .i64 x312), sV (.int .i64 x313)] :: Blk ad2 [sV (.int .i64 0), sL zL, sL zL, sV (.int .i64 0), sV (.int .i64 0), sL zL, sL zL, sV (.int .i64 0), sV (.int .i64 0), sL zL, sL zL, sV (.int .i64 0), sV (.slice none 0 0)] :: F = L₀) wb317 ?_ ?_ ?_
 ·rintro _ S375 _ ⟨x310, x311, x312, x313, x314, v315, e376, rfl, rfl, rfl⟩
  have h := ho318; clear ho318
  try dsimp only at h
  refine GX.exit_block ?_
  refine GX.then hK233 ?_
  refine G.seq (fun _ hK377 => ?_)
  refine sr (fun _ hK378 => ?_)
  refine mv ?_
  obtain ⟨t379, wt379, h⟩ := bind_some' h
  refine st (OS.callP 2 _ (by decide) rfl fb89 rfl (code_Reader_Done_ok (⟨x311, x312, x313⟩ : Rd) wt379) (fun v380 S381 _ e382 z383 => ?_))
  obtain ⟨rfl, rfl⟩ := z383
  refine an ?_
  refine nt hK378 ?_
  refine sr (fun _ hK384 => ?_)
  refine mv ?_
  refine vl (Y.neI rfl rfl) ?_
  refine nt hK384 ?_
  refine G.cond _ rfl (fun c385 => ?_) (fun c385 => ?_)
  ·replace h := ite_t c385 h
   refine sr (fun _ hK386 => ?_)
   refine vl (Y.buildE _ [sV (.int .i64 0), sL zL, sL zL, sV (.int .i64 0), sV (.int .i64 0), sL zL, sL zL, sV (.int .i64 0), sV (.int .i64 0), sL zL, sL zL, sV (.int .i64 0), sV (.slice none 0 0)] strt34 zero34 rfl .nil) ?_
   refine mv ?_
   refine sf 3 13 [sV (.int .i64 0), sL zL, sL zL, sV (.int .i64 0), sV (.int .i64 0), sL zL, sL zL, sV (.int .i64 0), sV (.int .i64 0), sL zL, sL zL, sV (.int .i64 0), sV (.slice none 0 0)] (aggV_cells _) (oI (oL (oL (oI (oI (oL (oL (oI (oI (oL (oL (oI (oI oN))))))))))))) size34 ?_
   refine an ?_
   refine nt hK386 ?_
   refine G.ret ?_
   obtain rfl := Option.some.inj h
   exact hret _ _ _ _ 4 (l2 e8 (l2 e16 (l2 e238 (l2 e376 e382)))) (.cons (.row (k := 3) rfl rfl row34 (by kernel_rfl)) (.cons (.tmp rfl) .nil)) ⟨_, rfl, (Sls.nil (α := Item) _)⟩ rfl
  replace h := ite_f c385 h
  refine sk hK377 ?_
  refine sr (fun _ hK387 => ?_)
  refine lb 1 0 13 [sV (.int .i64 t13.1), sL zL, sL zL, sV (.int .i64 0), sV (.int .i64 0), sL zL, sL zL, sV (.int .i64 0), sV (.int .i64 0), sL zL, sL zL, sV (.int .i64 0), sV v315] row34 ?_
  refine GO.rowOne 0 rfl (fun z388 => ?_)
  refine sf 3 13 [sV (.int .i64 t13.1), sL zL, sL zL, sV (.int .i64 0), sV (.int .i64 0), sL zL, sL zL, sV (.int .i64 0), sV (.int .i64 0), sL zL, sL zL, sV (.int .i64 0), sV v315] (aggV_cells _) (oI (oL (oL (oI (oI (oL (oL (oI (oI (oL (oL (oI (oV (z388) oN))))))))))))) size34 ?_
  refine an ?_
  refine nt hK387 ?_
  refine G.ret ?_
  refine GX.shareR 0 rfl (fun S389 e390 q391 => ?_)
  obtain rfl := Option.some.inj h
  exact hret _ _ _ _ 4 (l2 e8 (l2 e16 (l2 e238 (l2 e376 (l2 e382 e390))))) (.cons (.row (k := 3) rfl rfl row34 (by kernel_rfl)) (.cons (.tmp rfl) .nil)) ⟨_, rfl, q391⟩ rfl
 ·exact ⟨Hp.le_refl _, (.slice none 0 0), rfl, rfl⟩
 rintro ⟨x310, x311, x312, x313, x314⟩ _ S308 _ ⟨e309, v315, rfl, rfl⟩ out2 h hf2 K2 hK2 hx316
 rw [proof_Read_s2] at h
 refine sr (fun _ hK319 => ?_)
 refine vl (Y.ltI rfl rfl) ?_
 refine nt hK319 ?_
 refine G.seq (fun _ hK320 => ?_)
 refine G.cond _ rfl (fun c321 => ?_) (fun c321 => ?_)
 ·replace h := ite_t c321 h
  refine sk hK320 ?_
  refine G.seq (fun _ hK322 => ?_)
  refine G.block ?_
  refine sr (fun _ hK323 => ?_)
  refine mv ?_
  obtain ⟨t324, wt324, h⟩ := bind_some' h
  refine st (OS.callP 2 _ (by decide) rfl fb92 rfl (code_Reader_Number_ok (⟨x311, x312, x313⟩ : Rd) wt324) (fun v325 S326 _ e327 z328 => ?_))
  obtain ⟨rfl, rfl⟩ := z328
  refine mv ?_
  obtain ⟨t329, wt329, h⟩ := bind_some' h
  refine st (OS.callP 2 _ (by decide) rfl fb93 rfl (code_Reader_Label_ok t324.2 wt329) (fun v330 S331 _ e332 z333 => ?_))
  obtain ⟨rfl, rfl⟩ := z333
  refine vl (Y.buildE _ [sV (.int .i64 t324.1), sL t329.1] strt27 zero27 rfl (.cons 0 1 [sV (.int .i64 t324.1)] rfl rfl rfl rfl rfl (.cons 1 1 [sL t329.1] rfl (aggV_cells _) rfl rfl rfl .nil))) ?_
  refine mv ?_
  obtain ⟨t334, wt334, h⟩ := bind_some' h
  refine st (OS.callP 2 _ (by decide) rfl fb93 rfl (code_Reader_Label_ok t329.2 wt334) (fun v335 S336 _ e337 z338 => ?_))
  obtain ⟨rfl, rfl⟩ := z338
  refine mv ?_
  obtain ⟨t339, wt339, h⟩ := bind_some' h
  refine st (OS.callP 2 _ (by decide) rfl fb92 rfl (code_Reader_Number_ok t334.2 wt339) (fun v340 S341 _ e342 z343 => ?_))
  obtain ⟨rfl, rfl⟩ := z343
  refine vl (Y.buildE _ [sV (.int .i64 t324.1), sL t329.1, sL t334.1, sV (.int .i64 t339.1)] strt29 zero29 rfl (.cons 0 2 [sV (.int .i64 t324.1), sL t329.1] rfl (aggV_cells _) rfl rfl rfl (.cons 2 1 [sL t334.1] rfl (aggV_cells _) rfl rfl rfl (.cons 3 1 [sV (.int .i64 t339.1)] rfl rfl rfl rfl rfl .nil)))) ?_
  refine st (OS.alloc _ (by decide) zero29 (fun ad344 => ?_))
  refine sf 0 4 [sV (.int .i64 t324.1), sL t329.1, sL t334.1, sV (.int .i64 t339.1)] (aggV_cells _) (oI (oL (oL (oI oN)))) size29 ?_
  refine nt hK323 ?_
  refine G.seq (fun _ hK346 => ?_)
  refine sr (fun _ hK347 => ?_)
  refine mv ?_
  obtain ⟨t348, wt348, h⟩ := bind_some' h
  refine st (OS.callP 3 _ (by decide) rfl fb89 rfl (code_Reader_Done_ok t339.2 wt348) (fun v349 S350 _ e351 z352 => ?_))
  obtain ⟨rfl, rfl⟩ := z352
  refine an ?_
  refine nt hK347 ?_
  refine sr (fun _ hK353 => ?_)
  refine mv ?_
  refine vl (Y.neI rfl rfl) ?_
  refine mv ?_
  obtain ⟨b354, wb354, h⟩ := bind_some' h
  refine GO.joinB 3 88 (b354 = ·) (fun K356 hK356 => ?_) ?_
  ·replace h := wb354
   rcases Bool.eq_false_or_eq_true (t348.1 != (0 : Int)) with c355 | c355
   ·replace h := ite_t c355 h
    refine gv 85 c355 (Y.move rfl) ?_
    refine gv 85 c355 (Y.neI rfl rfl) ?_
    refine vl (Y.pickT _ c355 rfl rfl) ?_
    refine GO.nil ?_
    refine p2 (p2 ?_)
    exact hK356 _ _ l0 (Option.some.inj h).symm
   replace h := ite_f c355 h
   refine gf 85 c355 ?_
   refine gf 85 c355 ?_
   refine vl (Y.pickF _ c355 rfl rfl) ?_
   refine GO.nil ?_
   refine p2 (p2 ?_)
   exact hK356 _ _ l0 (Option.some.inj h).symm
  rintro _ S357 e358 rfl
  refine nt hK353 ?_
  refine G.cond _ rfl (fun c359 => ?_) (fun c359 => ?_)
  ·replace h := ite_t c359 h
   refine sr (fun _ hK360 => ?_)
   refine vl (Y.buildE _ [sV (.int .i64 0), sL zL, sL zL, sV (.int .i64 0), sV (.int .i64 0), sL zL, sL zL, sV (.int .i64 0), sV (.int .i64 0), sL zL, sL zL, sV (.int .i64 0), sV (.slice none 0 0)] strt34 zero34 rfl .nil) ?_
   refine mv ?_
   refine sf 4 13 [sV (.int .i64 0), sL zL, sL zL, sV (.int .i64 0), sV (.int .i64 0), sL zL, sL zL, sV (.int .i64 0), sV (.int .i64 0), sL zL, sL zL, sV (.int .i64 0), sV (.slice none 0 0)] (aggV_cells _) (oI (oL (oL (oI (oI (oL (oL (oI (oI (oL (oL (oI (oI oN))))))))))))) size34 ?_
   refine an ?_
   refine nt hK360 ?_
   refine G.ret ?_
   obtain rfl := Option.some.inj h
   obtain rfl := hf2 _ rfl
   have h := ho318
   try dsimp only at h
   obtain rfl := Option.some.inj h
   exact hret _ _ _ _ 5 (l2 e8 (l2 e16 (l2 e238 (l2 e309 (l2 e327 (l2 e332 (l2 e337 (l2 e342 (l2 e351 e358))))))))) (.cons (.row (k := 4) rfl rfl row34 (by kernel_rfl)) (.cons (.tmp rfl) .nil)) ⟨_, rfl, (Sls.nil (α := Item) _)⟩ rfl
  replace h := ite_f c359 h
  refine sk hK346 ?_
  refine G.seq (fun _ hK361 => ?_)
  refine sr (fun _ hK362 => ?_)
  refine lb 0 0 4 [sV (.int .i64 t324.1), sL t329.1, sL t334.1, sV (.int .i64 t339.1)] row29 ?_
  obtain ⟨t363, wt363, h⟩ := bind_some' h
  refine st (cl fb94 (node_Good_ok (⟨t324.1, t329.1, t334.1, t339.1⟩ : Item) wt363) (fun v364 S365 e366 z367 => ?_))
  obtain rfl := z367
  refine vl (Y.not rfl) ?_
  refine nt hK362 ?_
  refine G.cond _ rfl (fun c368 => ?_) (fun c368 => ?_)
  ·replace h := ite_t c368 h
   refine sr (fun _ hK369 => ?_)
   refine vl (Y.buildE _ [sV (.int .i64 0), sL zL, sL zL, sV (.int .i64 0), sV (.int .i64 0), sL zL, sL zL, sV (.int .i64 0), sV (.int .i64 0), sL zL, sL zL, sV (.int .i64 0), sV (.slice none 0 0)] strt34 zero34 rfl .nil) ?_
   refine sf 4 13 [sV (.int .i64 0), sL zL, sL zL, sV (.int .i64 0), sV (.int .i64 0), sL zL, sL zL, sV (.int .i64 0), sV (.int .i64 0), sL zL, sL zL, sV (.int .i64 0), sV (.slice none 0 0)] (aggV_cells _) (oI (oL (oL (oI (oI (oL (oL (oI (oI (oL (oL (oI (oI oN))))))))))))) size34 ?_
   refine an ?_
   refine nt hK369 ?_
   refine G.ret ?_
   obtain rfl := Option.some.inj h
   obtain rfl := hf2 _ rfl
   have h := ho318
   try dsimp only at h
   obtain rfl := Option.some.inj h
   exact hret _ _ _ _ 5 (l2 e8 (l2 e16 (l2 e238 (l2 e309 (l2 e327 (l2 e332 (l2 e337 (l2 e342 (l2 e351 (l2 e358 e366)))))))))) (.cons (.row (k := 4) rfl rfl row34 (by kernel_rfl)) (.cons (.tmp rfl) .nil)) ⟨_, rfl, (Sls.nil (α := Item) _)⟩ rfl
  replace h := ite_f c368 h
  refine sk hK361 ?_
  refine G.region ?_
  refine vl (Y.fieldAddr 198 rfl fld34_3 rfl) ?_
  refine lv 2 12 one32 ?_
  refine lb 0 0 4 [sV (.int .i64 t324.1), sL t329.1, sL t334.1, sV (.int .i64 t339.1)] row29 ?_
  refine bs ([(⟨t324.1, t329.1, t334.1, t339.1⟩ : Item)] : List Item) el32 (fun v370 => ?_)
  obtain ⟨g372, h⟩ := req_bind h
  refine st (OS.append (xs := x314) (ys := ([(⟨t324.1, t329.1, t334.1, t339.1⟩ : Item)] : List Item)) 2 (by decide) rfl rfl rfl (Rw.src (k := 0) rfl) el32 src32 g372 (fun v373 => ?_))
  refine vl (Y.fieldAddr 198 rfl fld34_3 rfl) ?_
  refine GO.rowOne 2 rfl (fun z374 => ?_)
  refine so 3 12 1 [sV (.int .i64 t13.1), sL zL, sL zL, sV (.int .i64 0), sV (.int .i64 0), sL zL, sL zL, sV (.int .i64 0), sV (.int .i64 0), sL zL, sL zL, sV (.int .i64 0), sV v373] (r := [sV v373]) (cells_one z374) (oV (z374) oN) size32 ?_
  refine GO.nil ?_
  refine GX.normal_block ?_
  refine GX.then hK322 ?_
  refine G.region ?_
  refine vl (Y.addI rfl rfl) ?_
  refine mv ?_
  refine GO.nil ?_
  obtain rfl := Option.some.inj h
  refine GX.keep [69, 68, 5, 4, 2] rfl ?_
  refine GX.less 2 rfl ?_
  exact hK2 _ _ _ _ rfl ⟨(l2 e309 (l2 e327 (l2 e332 (l2 e337 (l2 e342 (l2 e351 (l2 e358 e366))))))), v373, rfl, rfl⟩
 replace h := ite_f c321 h
 refine G.exit ?_
 refine GX.exit_then ?_
 obtain rfl := Option.some.inj h
 refine GX.keep [5, 4, 2] rfl ?_
 exact hx316 _ _ _ ⟨_, _, _, _, _, _, e309, (hf2 _ rfl).symm, rfl, rfl⟩

/- chirograph/proof.write -/
def proof_write  (a0 : Wr) (a1 : Item) : Option Wr :=
 ((code_Writer_Number a0 a1.len).bind fun t5 => ((code_Writer_Label t5 a1.bits).bind fun t11 => ((code_Writer_Label t11 a1.sum).bind fun t17 => ((code_Writer_Number t17 a1.at_).bind fun t22 => some t22))))

theorem proof_write_ok {S : Hp} (a0 : Wr) (a1 : Item) {b0 : Nat} {r : Wr} (h : proof_write a0 a1 = some r) : FnP Tryz.prog 105 [.pointer (some ⟨b0, 0, none⟩), aggV [sV (.int .i64 a1.len), sL a1.bits, sL a1.sum, sV (.int .i64 a1.at_)]] S (WrA b0 a0) (fun v S' A' => v = .tuple #[] ∧ A' = WrA b0 r) := by
 unfold proof_write at h
 refine Fn.ofP [] 22 Tryz.func105 rfl Tryz.ntmps105 (Nat.le_of_ble_eq_true rfl) rfl (fun o F Q hQ hN hret => ?_)
 refine sr (fun _ hK1 => ?_)
 refine st (OS.boxA (by decide) rfl (fun ad2 => ?_))
 refine nt hK1 ?_
 refine sr (fun _ hK4 => ?_)
 refine mv ?_
 refine vl (Y.fieldAddr 0 rfl fld29_0 rfl) ?_
 refine vl (Y.fieldAddr 0 rfl fld27_0 rfl) ?_
 refine lv 0 0 one3 ?_
 obtain ⟨t5, wt5, h⟩ := bind_some' h
 refine st (OS.callP 1 _ (by decide) rfl fb102 rfl (code_Writer_Number_ok a0 a1.len wt5) (fun v6 S7 _ e8 z9 => ?_))
 obtain ⟨rfl, rfl⟩ := z9
 refine nt hK4 ?_
 refine sr (fun _ hK10 => ?_)
 refine mv ?_
 refine vl (Y.fieldAddr 0 rfl fld29_0 rfl) ?_
 refine vl (Y.fieldAddr 1 rfl fld27_1 rfl) ?_
 refine lb 0 1 1 [sL a1.bits] row23 ?_
 obtain ⟨t11, wt11, h⟩ := bind_some' h
 refine st (OS.callP 1 _ (by decide) rfl fb177 rfl (code_Writer_Label_ok t5 a1.bits wt11) (fun v12 S13 _ e14 z15 => ?_))
 obtain ⟨rfl, rfl⟩ := z15
 refine nt hK10 ?_
 refine sr (fun _ hK16 => ?_)
 refine mv ?_
 refine vl (Y.fieldAddr 33 rfl fld29_1 rfl) ?_
 refine lb 0 2 1 [sL a1.sum] row23 ?_
 obtain ⟨t17, wt17, h⟩ := bind_some' h
 refine st (OS.callP 1 _ (by decide) rfl fb177 rfl (code_Writer_Label_ok t11 a1.sum wt17) (fun v18 S19 _ e20 z21 => ?_))
 obtain ⟨rfl, rfl⟩ := z21
 refine nt hK16 ?_
 refine G.region ?_
 refine mv ?_
 refine vl (Y.fieldAddr 65 rfl fld29_2 rfl) ?_
 refine lv 0 3 one3 ?_
 obtain ⟨t22, wt22, h⟩ := bind_some' h
 refine st (OS.callP 1 _ (by decide) rfl fb102 rfl (code_Writer_Number_ok t17 a1.at_ wt22) (fun v23 S24 _ e25 z26 => ?_))
 obtain ⟨rfl, rfl⟩ := z26
 refine GO.nil ?_
 refine GX.fall hN ?_
 obtain rfl := Option.some.inj h
 exact hret _ _ _ _ _ 1 (l2 e8 (l2 e14 (l2 e20 e25))) .nil ⟨rfl, rfl⟩ rfl

end
end Go.Ch
end
section
/- Functions of the program: what each comes to, proved. -/
set_option linter.unusedVariables false
set_option linter.unusedSimpArgs false
set_option maxRecDepth 100000
set_option maxHeartbeats 4000000
namespace Go.Ch
open Go.RowKit (wrap64)
open Go.Proofs
noncomputable section
/- chirograph/chirographlaw18.Cut -/
def l18_Cut  (a0 : Proof) : Option Proof :=
 (if (decide ((300 : Int) < (lenI a0.path))) = true then ((req ((0 : Int) ≤ 0 ∧ 0 ≤ (300 : Int) ∧ (300 : Int) ≤ lenI a0.path)).bind fun _ => some (⟨a0.end_, a0.leaf, a0.a, a0.b, (cutL a0.path 0 (300 : Int))⟩ : Proof)) else some a0)

theorem l18_Cut_ok {S : Hp} (a0 : Proof) {v1 : Value} (q2 : Sls S v1 a0.path) {r : Proof} (h : l18_Cut a0 = some r) : Fn Tryz.prog 6 [aggV [sV (.int .i64 a0.end_), sL a0.leaf.label, sL a0.leaf.value, sV (.int .i64 a0.leaf.at_), sV (.int .i64 a0.a.len), sL a0.a.bits, sL a0.a.sum, sV (.int .i64 a0.a.at_), sV (.int .i64 a0.b.len), sL a0.b.bits, sL a0.b.sum, sV (.int .i64 a0.b.at_), sV v1]] S (fun v S' => ∃ (v16 : Value), v = aggV [sV (.int .i64 r.end_), sL r.leaf.label, sL r.leaf.value, sV (.int .i64 r.leaf.at_), sV (.int .i64 r.a.len), sL r.a.bits, sL r.a.sum, sV (.int .i64 r.a.at_), sV (.int .i64 r.b.len), sL r.b.bits, sL r.b.sum, sV (.int .i64 r.b.at_), sV v16] ∧ Sls S' v16 r.path) := by
 unfold l18_Cut at h
 refine fo [.cell 2 34] 12 Tryz.func6 Tryz.ntmps6 (fun o F Q hQ hN hret => ?_)
 refine sr (fun _ hK3 => ?_)
 refine st (OS.boxA (by decide) rfl (fun ad4 => ?_))
 refine st (OS.alloc _ (by decide) zero34 (fun ad6 => ?_))
 refine nt hK3 ?_
 refine G.seq (fun _ hK8 => ?_)
 refine sr (fun _ hK9 => ?_)
 refine vl (Y.fieldAddr 198 rfl fld34_3 rfl) ?_
 refine lv 1 12 one32 ?_
 refine vl (Y.lenS rfl q2 slc32) ?_
 refine vl (Y.gtI rfl rfl) ?_
 refine nt hK9 ?_
 refine G.cond _ rfl (fun c10 => ?_) (fun c10 => ?_)
 ·replace h := ite_t c10 h
  refine G.region ?_
  refine vl (Y.fieldAddr 198 rfl fld34_3 rfl) ?_
  refine lv 1 12 one32 ?_
  obtain ⟨g11, h⟩ := req_bind h
  refine st (OS.sliceS 0 (300 : Int) none (some (.int .i64 (300 : Int))) (by decide) rfl q2 slc32 rfl rfl (.inl ⟨rfl, rfl⟩) (.inr ⟨_, rfl⟩) g11 (fun v12 q13 => ?_))
  refine vl (Y.fieldAddr 198 rfl fld34_3 rfl) ?_
  refine so 1 12 1 [sV (.int .i64 a0.end_), sL a0.leaf.label, sL a0.leaf.value, sV (.int .i64 a0.leaf.at_), sV (.int .i64 a0.a.len), sL a0.a.bits, sL a0.a.sum, sV (.int .i64 a0.a.at_), sV (.int .i64 a0.b.len), sL a0.b.bits, sL a0.b.sum, sV (.int .i64 a0.b.at_), sV v12] (r := [sV v12]) q13.cells (oV (q13.one) oN) size32 ?_
  refine nt hK8 ?_
  refine sr (fun _ hK14 => ?_)
  refine lb 1 0 13 [sV (.int .i64 a0.end_), sL a0.leaf.label, sL a0.leaf.value, sV (.int .i64 a0.leaf.at_), sV (.int .i64 a0.a.len), sL a0.a.bits, sL a0.a.sum, sV (.int .i64 a0.a.at_), sV (.int .i64 a0.b.len), sL a0.b.bits, sL a0.b.sum, sV (.int .i64 a0.b.at_), sV v12] row34 ?_
  refine sf 0 13 [sV (.int .i64 a0.end_), sL a0.leaf.label, sL a0.leaf.value, sV (.int .i64 a0.leaf.at_), sV (.int .i64 a0.a.len), sL a0.a.bits, sL a0.a.sum, sV (.int .i64 a0.a.at_), sV (.int .i64 a0.b.len), sL a0.b.bits, sL a0.b.sum, sV (.int .i64 a0.b.at_), sV v12] (aggV_cells _) (oI (oL (oL (oI (oI (oL (oL (oI (oI (oL (oL (oI (oV (q13.one) oN))))))))))))) size34 ?_
  refine nt hK14 ?_
  refine G.ret ?_
  obtain rfl := Option.some.inj h
  exact hret _ _ _ _ 2 l0 (.cons (.row (k := 0) rfl rfl row34 (by kernel_rfl)) .nil) ⟨_, rfl, q13⟩ rfl
 replace h := ite_f c10 h
 refine sk hK8 ?_
 refine sr (fun _ hK15 => ?_)
 refine lb 1 0 13 [sV (.int .i64 a0.end_), sL a0.leaf.label, sL a0.leaf.value, sV (.int .i64 a0.leaf.at_), sV (.int .i64 a0.a.len), sL a0.a.bits, sL a0.a.sum, sV (.int .i64 a0.a.at_), sV (.int .i64 a0.b.len), sL a0.b.bits, sL a0.b.sum, sV (.int .i64 a0.b.at_), sV v1] row34 ?_
 refine sf 0 13 [sV (.int .i64 a0.end_), sL a0.leaf.label, sL a0.leaf.value, sV (.int .i64 a0.leaf.at_), sV (.int .i64 a0.a.len), sL a0.a.bits, sL a0.a.sum, sV (.int .i64 a0.a.at_), sV (.int .i64 a0.b.len), sL a0.b.bits, sL a0.b.sum, sV (.int .i64 a0.b.at_), sV v1] (aggV_cells _) (oI (oL (oL (oI (oI (oL (oL (oI (oI (oL (oL (oI (oV (q2.one) oN))))))))))))) size34 ?_
 refine nt hK15 ?_
 refine G.ret ?_
 obtain rfl := Option.some.inj h
 exact hret _ _ _ _ 2 l0 (.cons (.row (k := 0) rfl rfl row34 (by kernel_rfl)) .nil) ⟨_, rfl, q2⟩ rfl

/- chirograph/chirographlaw18.Told -/
def l18_Told  (a0 : Proof) : Option Proof :=
 ((l15_Told a0.a).bind fun t9 => ((l15_Told a0.b).bind fun t15 => ((l16_Told a0.path (300 : Int)).bind fun t21 => some (⟨a0.end_, a0.leaf, t9, t15, t21⟩ : Proof))))

theorem l18_Told_ok {S : Hp} (a0 : Proof) {v1 : Value} (q2 : Sls S v1 a0.path) {r : Proof} (h : l18_Told a0 = some r) : Fn Tryz.prog 10 [aggV [sV (.int .i64 a0.end_), sL a0.leaf.label, sL a0.leaf.value, sV (.int .i64 a0.leaf.at_), sV (.int .i64 a0.a.len), sL a0.a.bits, sL a0.a.sum, sV (.int .i64 a0.a.at_), sV (.int .i64 a0.b.len), sL a0.b.bits, sL a0.b.sum, sV (.int .i64 a0.b.at_), sV v1]] S (fun v S' => ∃ (v46 : Value), v = aggV [sV (.int .i64 r.end_), sL r.leaf.label, sL r.leaf.value, sV (.int .i64 r.leaf.at_), sV (.int .i64 r.a.len), sL r.a.bits, sL r.a.sum, sV (.int .i64 r.a.at_), sV (.int .i64 r.b.len), sL r.b.bits, sL r.b.sum, sV (.int .i64 r.b.at_), sV v46] ∧ Sls S' v46 r.path) := by
 unfold l18_Told at h
 refine fo [.cell 2 48] 19 Tryz.func10 Tryz.ntmps10 (fun o F Q hQ hN hret => ?_)
 refine sr (fun _ hK3 => ?_)
 refine st (OS.boxA (by decide) rfl (fun ad4 => ?_))
 refine st (OS.alloc _ (by decide) zero48 (fun ad6 => ?_))
 refine nt hK3 ?_
 refine G.seq (fun _ hK8 => ?_)
 obtain ⟨t9, wt9, h⟩ := bind_some' h
 obtain ⟨t15, wt15, h⟩ := bind_some' h
 obtain ⟨t21, wt21, h⟩ := bind_some' h
 refine G.drawS 16 _ ((fun _ => True) :: Blk ad4 [sV (.int .i64 a0.end_), sL a0.leaf.label, sL a0.leaf.value, sV (.int .i64 a0.leaf.at_), sV (.int .i64 a0.a.len), sL a0.a.bits, sL a0.a.sum, sV (.int .i64 a0.a.at_), sV (.int .i64 a0.b.len), sL a0.b.bits, sL a0.b.sum, sV (.int .i64 a0.b.at_), sV v1] :: F) mixed .refl (by kernel_rfl) ?_
 refine tx 0 rfl (.lose .refl) hQ (fun _ _ _ => Y.fieldAddr 0 rfl fld34_0 rfl) ?_
 refine tx 1 rfl (.lose .refl) hQ (fun S₀ X₀ e₀ => Y.loadV (X₀.length + 1)  0 _ rfl (Lk rfl) rfl rfl one3) ?_
 refine tx 2 rfl (.lose .refl) hQ (fun _ _ _ => Y.fieldAddr 1 rfl fld34_1 rfl) ?_
 refine tx 3 rfl (.lose .refl) hQ (fun S₀ X₀ e₀ => Y.loadB (X₀.length + 1)  1 3 [sL a0.leaf.label, sL a0.leaf.value, sV (.int .i64 a0.leaf.at_)] rfl (Lk rfl) rfl rfl row25 (by kernel_rfl)) ?_
 refine tx 4 rfl (.lose .refl) hQ (fun _ _ _ => Y.fieldAddr 66 rfl fld34_2 rfl) ?_
 refine tx 5 rfl (.lose .refl) hQ (fun _ _ _ => Y.fieldAddr 66 rfl fld31_0 rfl) ?_
 refine tx 6 rfl (.lose .refl) hQ (fun S₀ X₀ e₀ => Y.loadB (X₀.length + 1)  4 4 [sV (.int .i64 a0.a.len), sL a0.a.bits, sL a0.a.sum, sV (.int .i64 a0.a.at_)] rfl (Lk rfl) rfl rfl row29 (by kernel_rfl)) ?_
 refine tx 8 rfl (.lose .refl) hQ (fun _ _ _ => Y.fieldAddr 66 rfl fld34_2 rfl) ?_
 refine tx 9 rfl (.lose .refl) hQ (fun _ _ _ => Y.fieldAddr 132 rfl fld31_1 rfl) ?_
 refine tx 10 rfl (.lose .refl) hQ (fun S₀ X₀ e₀ => Y.loadB (X₀.length + 1)  8 4 [sV (.int .i64 a0.b.len), sL a0.b.bits, sL a0.b.sum, sV (.int .i64 a0.b.at_)] rfl (Lk rfl) rfl rfl row29 (by kernel_rfl)) ?_
 refine tx 12 rfl (.lose .refl) hQ (fun _ _ _ => Y.fieldAddr 198 rfl fld34_3 rfl) ?_
 refine tx 13 rfl (.lose .refl) hQ (fun S₀ X₀ e₀ => Y.loadV (X₀.length + 1)  12 _ rfl (Lk rfl) rfl rfl one32) ?_
 refine g1 7 ?_
 refine n1 rfl (cl fb40 (l15_Told_ok a0.a wt9) (fun v29 S30 e31 z32 => ⟨⟨[], .refl, e31⟩, ?_⟩))
 have q33 := q2.up e31
 obtain rfl := z32
 refine g1 11 ?_
 refine n1 rfl (cl fb40 (l15_Told_ok a0.b wt15) (fun v34 S35 e36 z37 => ⟨⟨[], .refl, (l2 e31 e36)⟩, ?_⟩))
 have q38 := q33.up e36
 obtain rfl := z37
 refine g1 14 ?_
 refine n1 rfl (cl fb41 (l16_Told_ok a0.path (300 : Int) q38 wt21) (fun v39 S40 e41 z42 => ⟨⟨[], .refl, (l2 e31 (l2 e36 e41))⟩, ?_⟩))
 have q43 := q38.up e41
 have q45 := z42
 refine tx 15 rfl (.lose .refl) hQ (fun _ _ _ => Y.buildE _ [sV (.int .i64 a0.end_), sL a0.leaf.label, sL a0.leaf.value, sV (.int .i64 a0.leaf.at_), sV (.int .i64 t9.len), sL t9.bits, sL t9.sum, sV (.int .i64 t9.at_), sV (.int .i64 t15.len), sL t15.bits, sL t15.sum, sV (.int .i64 t15.at_), sV v39] strt48 zero48 rfl (.cons 0 1 [sV (.int .i64 a0.end_)] rfl rfl rfl rfl rfl (.cons 1 3 [sL a0.leaf.label, sL a0.leaf.value, sV (.int .i64 a0.leaf.at_)] rfl (aggV_cells _) rfl rfl rfl (.cons 4 4 [sV (.int .i64 t9.len), sL t9.bits, sL t9.sum, sV (.int .i64 t9.at_)] rfl (aggV_cells _) rfl rfl rfl (.cons 8 4 [sV (.int .i64 t15.len), sL t15.bits, sL t15.sum, sV (.int .i64 t15.at_)] rfl (aggV_cells _) rfl rfl rfl (.cons 12 1 [sV v39] rfl q45.cells rfl rfl rfl .nil)))))) ?_
 refine g1 16 ?_
 refine n2 rfl (OS.store 0 0 13 [sV (.int .i64 a0.end_), sL a0.leaf.label, sL a0.leaf.value, sV (.int .i64 a0.leaf.at_), sV (.int .i64 t9.len), sL t9.bits, sL t9.sum, sV (.int .i64 t9.at_), sV (.int .i64 t15.len), sL t15.bits, sL t15.sum, sV (.int .i64 t15.at_), sV v39] (r := [sV (.int .i64 a0.end_), sL a0.leaf.label, sL a0.leaf.value, sV (.int .i64 a0.leaf.at_), sV (.int .i64 t9.len), sL t9.bits, sL t9.sum, sV (.int .i64 t9.at_), sV (.int .i64 t15.len), sL t15.bits, sL t15.sum, sV (.int .i64 t15.at_), sV v39]) rfl rfl (aggV_cells _) (oI (oL (oL (oI (oI (oL (oL (oI (oI (oL (oL (oI (oV (q45.one) oN))))))))))))) rfl rfl size48 (by kernel_rfl) (by kernel_rfl) (by kernel_rfl) ⟨⟨[], (.lose .refl), (l2 e31 (l2 e36 e41))⟩, ?_⟩)
 refine dn ?_
 refine GX.then hK8 ?_
 refine G.ret ?_
 obtain rfl := Option.some.inj h
 exact hret _ _ _ _ 2 (l2 e31 (l2 e36 e41)) (.cons (.row (k := 0) rfl rfl row48 (by kernel_rfl)) .nil) ⟨_, rfl, q45⟩ rfl

/- chirograph/chirographlaw18.awake -/
def l18_awake (k : Nat)  : Option Bool :=
 ((patch_Of k ([(⟨zL, zL, 0⟩ : Leaf), (⟨(setV zL 0 64), zL, (5 : Int)⟩ : Leaf), (⟨(setV zL 0 128), zL, 0⟩ : Leaf)] : List Leaf)).bind fun t9 => ((patch_Top k t9).bind fun t16 => ((proof_Make k ([(⟨zL, zL, 0⟩ : Leaf), (⟨(setV zL 0 64), zL, (5 : Int)⟩ : Leaf), (⟨(setV zL 0 128), zL, 0⟩ : Leaf)] : List Leaf) (setV zL 0 64)).bind fun t24 => ((proof_Check t16.1 (setV zL 0 64) t24.1).bind fun t34 => ((proof_Make k ([(⟨zL, zL, 0⟩ : Leaf), (⟨(setV zL 0 64), zL, (5 : Int)⟩ : Leaf), (⟨(setV zL 0 128), zL, 0⟩ : Leaf)] : List Leaf) (setV zL 0 192)).bind fun t42 => ((proof_Check t16.1 (setV zL 0 192) t42.1).bind fun t52 => ((if (t16.2 == (0 : Int)) = true then some (t24.2 == (0 : Int)) else some false).bind fun b60 => ((if b60 = true then some (t34.2.2 == (0 : Int)) else some false).bind fun b65 => ((if b65 = true then some t34.2.1 else some false).bind fun b70 => ((if b70 = true then some (t34.1.at_ == (5 : Int)) else some false).bind fun b75 => ((if b75 = true then some ((lenI t24.1.path) == (2 : Int)) else some false).bind fun b80 => ((if b80 = true then some (t42.2 == (0 : Int)) else some false).bind fun b85 => ((if b85 = true then some (t52.2.2 == (0 : Int)) else some false).bind fun b90 => ((if b90 = true then some (!t52.2.1) else some false).bind fun b95 => some b95))))))))))))))

theorem l18_awake_ok {S : Hp} (k : Nat) {r : Bool} (h : l18_awake k = some r) : Fn Tryz.prog 18 [] S (fun v S' => v = .bool r) := by
 unfold l18_awake at h
 refine fo [.tmp 0] 90 Tryz.func18 Tryz.ntmps18 (fun o F Q hQ hN hret => ?_)
 refine sr (fun _ hK1 => ?_)
 refine an ?_
 refine nt hK1 ?_
 refine sr (fun _ hK2 => ?_)
 refine vl (Y.buildE _ [sL zL, sL zL, sV (.int .i64 0)] strt25 zero25 rfl .nil) ?_
 refine vl (Y.buildA [u8V 64] [sL (setV zL 0 64)] arr23 zero23 rfl (by kernel_rfl) (by kernel_rfl)) ?_
 refine vl (Y.buildE _ [sL (setV zL 0 64), sL zL, sV (.int .i64 (5 : Int))] strt25 zero25 rfl (.cons 0 1 [sL (setV zL 0 64)] rfl (aggV_cells _) rfl rfl rfl (.cons 2 1 [sV (.int .i64 (5 : Int))] rfl rfl rfl rfl rfl .nil))) ?_
 refine vl (Y.buildA [u8V 128] [sL (setV zL 0 128)] arr23 zero23 rfl (by kernel_rfl) (by kernel_rfl)) ?_
 refine vl (Y.buildE _ [sL (setV zL 0 128), sL zL, sV (.int .i64 0)] strt25 zero25 rfl (.cons 0 1 [sL (setV zL 0 128)] rfl (aggV_cells _) rfl rfl rfl .nil)) ?_
 refine bs ([(⟨zL, zL, 0⟩ : Leaf), (⟨(setV zL 0 64), zL, (5 : Int)⟩ : Leaf), (⟨(setV zL 0 128), zL, 0⟩ : Leaf)] : List Leaf) el35 (fun v3 => ?_)
 refine an ?_
 refine nt hK2 ?_
 refine sr (fun _ hK5 => ?_)
 refine mv ?_
 obtain ⟨t9, wt9, h⟩ := bind_some' h
 refine GO.shareR 0 rfl (fun S6 e7 q8 => ?_)
 refine st (cl fb44 (patch_Of_ok k ([(⟨zL, zL, 0⟩ : Leaf), (⟨(setV zL 0 64), zL, (5 : Int)⟩ : Leaf), (⟨(setV zL 0 128), zL, 0⟩ : Leaf)] : List Leaf) q8 wt9) (fun v10 S11 e12 z13 => ?_))
 replace q8 := q8.up e12
 have q15 := z13
 obtain ⟨t16, wt16, h⟩ := bind_some' h
 refine st (cl fb67 (patch_Top_ok k t9 q15 wt16) (fun v17 S18 e19 z20 => ?_))
 replace q8 := q8.up e19
 replace q15 := q15.up e19
 obtain rfl := z20
 refine mv ?_
 refine vl (Y.extract _ rfl rfl) ?_
 refine vl (Y.extract _ rfl rfl) ?_
 refine st (OS.alloc _ (by decide) zero23 (fun ad21 => ?_))
 refine sf 0 1 [sL t16.1] (aggV_cells _) (oL oN) size23 ?_
 refine an ?_
 refine nt hK5 ?_
 refine sr (fun _ hK23 => ?_)
 refine mv ?_
 refine vl (Y.buildA [u8V 64] [sL (setV zL 0 64)] arr23 zero23 rfl (by kernel_rfl) (by kernel_rfl)) ?_
 obtain ⟨t24, wt24, h⟩ := bind_some' h
 refine st (cl fb68 (proof_Make_ok k ([(⟨zL, zL, 0⟩ : Leaf), (⟨(setV zL 0 64), zL, (5 : Int)⟩ : Leaf), (⟨(setV zL 0 128), zL, 0⟩ : Leaf)] : List Leaf) (setV zL 0 64) q8 wt24) (fun v25 S26 e27 z28 => ?_))
 replace q8 := q8.up e27
 replace q15 := q15.up e27
 obtain ⟨v29, rfl, q30⟩ := z28
 refine mv ?_
 refine vl (Y.extract _ rfl rfl) ?_
 refine vl (Y.extract _ rfl rfl) ?_
 refine st (OS.alloc _ (by decide) zero34 (fun ad31 => ?_))
 refine sf 0 13 [sV (.int .i64 t24.1.end_), sL t24.1.leaf.label, sL t24.1.leaf.value, sV (.int .i64 t24.1.leaf.at_), sV (.int .i64 t24.1.a.len), sL t24.1.a.bits, sL t24.1.a.sum, sV (.int .i64 t24.1.a.at_), sV (.int .i64 t24.1.b.len), sL t24.1.b.bits, sL t24.1.b.sum, sV (.int .i64 t24.1.b.at_), sV v29] (aggV_cells _) (oI (oL (oL (oI (oI (oL (oL (oI (oI (oL (oL (oI (oV (q30.one) oN))))))))))))) size34 ?_
 refine an ?_
 refine nt hK23 ?_
 refine sr (fun _ hK33 => ?_)
 refine lb 1 0 1 [sL t16.1] row23 ?_
 refine vl (Y.buildA [u8V 64] [sL (setV zL 0 64)] arr23 zero23 rfl (by kernel_rfl) (by kernel_rfl)) ?_
 refine lb 0 0 13 [sV (.int .i64 t24.1.end_), sL t24.1.leaf.label, sL t24.1.leaf.value, sV (.int .i64 t24.1.leaf.at_), sV (.int .i64 t24.1.a.len), sL t24.1.a.bits, sL t24.1.a.sum, sV (.int .i64 t24.1.a.at_), sV (.int .i64 t24.1.b.len), sL t24.1.b.bits, sL t24.1.b.sum, sV (.int .i64 t24.1.b.at_), sV v29] row34 ?_
 obtain ⟨t34, wt34, h⟩ := bind_some' h
 refine st (cl fb8 (proof_Check_ok t16.1 (setV zL 0 64) t24.1 q30 wt34) (fun v35 S36 e37 z38 => ?_))
 replace q8 := q8.up e37
 replace q15 := q15.up e37
 replace q30 := q30.up e37
 obtain rfl := z38
 refine mv ?_
 refine vl (Y.extract _ rfl rfl) ?_
 refine vl (Y.extract _ rfl rfl) ?_
 refine vl (Y.extract _ rfl rfl) ?_
 refine st (OS.alloc _ (by decide) zero25 (fun ad39 => ?_))
 refine sf 0 3 [sL t34.1.label, sL t34.1.value, sV (.int .i64 t34.1.at_)] (aggV_cells _) (oL (oL (oI oN))) size25 ?_
 refine an ?_
 refine an ?_
 refine nt hK33 ?_
 refine sr (fun _ hK41 => ?_)
 refine mv ?_
 refine vl (Y.buildA [u8V 192] [sL (setV zL 0 192)] arr23 zero23 rfl (by kernel_rfl) (by kernel_rfl)) ?_
 obtain ⟨t42, wt42, h⟩ := bind_some' h
 refine st (cl fb68 (proof_Make_ok k ([(⟨zL, zL, 0⟩ : Leaf), (⟨(setV zL 0 64), zL, (5 : Int)⟩ : Leaf), (⟨(setV zL 0 128), zL, 0⟩ : Leaf)] : List Leaf) (setV zL 0 192) q8 wt42) (fun v43 S44 e45 z46 => ?_))
 replace q8 := q8.up e45
 replace q15 := q15.up e45
 replace q30 := q30.up e45
 obtain ⟨v47, rfl, q48⟩ := z46
 refine mv ?_
 refine vl (Y.extract _ rfl rfl) ?_
 refine vl (Y.extract _ rfl rfl) ?_
 refine st (OS.alloc _ (by decide) zero34 (fun ad49 => ?_))
 refine sf 0 13 [sV (.int .i64 t42.1.end_), sL t42.1.leaf.label, sL t42.1.leaf.value, sV (.int .i64 t42.1.leaf.at_), sV (.int .i64 t42.1.a.len), sL t42.1.a.bits, sL t42.1.a.sum, sV (.int .i64 t42.1.a.at_), sV (.int .i64 t42.1.b.len), sL t42.1.b.bits, sL t42.1.b.sum, sV (.int .i64 t42.1.b.at_), sV v47] (aggV_cells _) (oI (oL (oL (oI (oI (oL (oL (oI (oI (oL (oL (oI (oV (q48.one) oN))))))))))))) size34 ?_
 refine an ?_
 refine nt hK41 ?_
 refine sr (fun _ hK51 => ?_)
 refine lb 3 0 1 [sL t16.1] row23 ?_
 refine vl (Y.buildA [u8V 192] [sL (setV zL 0 192)] arr23 zero23 rfl (by kernel_rfl) (by kernel_rfl)) ?_
 refine lb 0 0 13 [sV (.int .i64 t42.1.end_), sL t42.1.leaf.label, sL t42.1.leaf.value, sV (.int .i64 t42.1.leaf.at_), sV (.int .i64 t42.1.a.len), sL t42.1.a.bits, sL t42.1.a.sum, sV (.int .i64 t42.1.a.at_), sV (.int .i64 t42.1.b.len), sL t42.1.b.bits, sL t42.1.b.sum, sV (.int .i64 t42.1.b.at_), sV v47] row34 ?_
 obtain ⟨t52, wt52, h⟩ := bind_some' h
 refine st (cl fb8 (proof_Check_ok t16.1 (setV zL 0 192) t42.1 q48 wt52) (fun v53 S54 e55 z56 => ?_))
 replace q8 := q8.up e55
 replace q15 := q15.up e55
 replace q30 := q30.up e55
 replace q48 := q48.up e55
 obtain rfl := z56
 refine mv ?_
 refine vl (Y.extract _ rfl rfl) ?_
 refine vl (Y.extract _ rfl rfl) ?_
 refine vl (Y.extract _ rfl rfl) ?_
 refine st (OS.alloc _ (by decide) zero25 (fun ad57 => ?_))
 refine sf 0 3 [sL t52.1.label, sL t52.1.value, sV (.int .i64 t52.1.at_)] (aggV_cells _) (oL (oL (oI oN))) size25 ?_
 refine an ?_
 refine an ?_
 refine nt hK51 ?_
 refine sr (fun _ hK59 => ?_)
 refine mv ?_
 refine vl (Y.eqI rfl rfl) ?_
 refine mv ?_
 obtain ⟨b60, wb60, h⟩ := bind_some' h
 refine GO.joinB 3 59 (b60 = ·) (fun K62 hK62 => ?_) ?_
 ·replace h := wb60
  rcases Bool.eq_false_or_eq_true (t16.2 == (0 : Int)) with c61 | c61
  ·replace h := ite_t c61 h
   refine gv 56 c61 (Y.move rfl) ?_
   refine gv 56 c61 (Y.eqI rfl rfl) ?_
   refine vl (Y.pickT _ c61 rfl rfl) ?_
   refine GO.nil ?_
   refine p2 (p2 ?_)
   exact hK62 _ _ l0 (Option.some.inj h).symm
  replace h := ite_f c61 h
  refine gf 56 c61 ?_
  refine gf 56 c61 ?_
  refine vl (Y.pickF _ c61 rfl rfl) ?_
  refine GO.nil ?_
  refine p2 (p2 ?_)
  exact hK62 _ _ l0 (Option.some.inj h).symm
 rintro _ S63 e64 rfl
 replace q8 := q8.up e64
 replace q15 := q15.up e64
 replace q30 := q30.up e64
 replace q48 := q48.up e64
 refine mv ?_
 obtain ⟨b65, wb65, h⟩ := bind_some' h
 refine GO.joinB 3 63 (b65 = ·) (fun K67 hK67 => ?_) ?_
 ·replace h := wb65
  rcases Bool.eq_false_or_eq_true b60 with c66 | c66
  ·replace h := ite_t c66 h
   refine gv 60 c66 (Y.move rfl) ?_
   refine gv 60 c66 (Y.eqI rfl rfl) ?_
   refine vl (Y.pickT _ c66 rfl rfl) ?_
   refine GO.nil ?_
   refine p2 (p2 ?_)
   exact hK67 _ _ l0 (Option.some.inj h).symm
  replace h := ite_f c66 h
  refine gf 60 c66 ?_
  refine gf 60 c66 ?_
  refine vl (Y.pickF _ c66 rfl rfl) ?_
  refine GO.nil ?_
  refine p2 (p2 ?_)
  exact hK67 _ _ l0 (Option.some.inj h).symm
 rintro _ S68 e69 rfl
 replace q8 := q8.up e69
 replace q15 := q15.up e69
 replace q30 := q30.up e69
 replace q48 := q48.up e69
 refine mv ?_
 obtain ⟨b70, wb70, h⟩ := bind_some' h
 refine GO.joinB 2 66 (b70 = ·) (fun K72 hK72 => ?_) ?_
 ·replace h := wb70
  rcases Bool.eq_false_or_eq_true b65 with c71 | c71
  ·replace h := ite_t c71 h
   refine gv 64 c71 (Y.move rfl) ?_
   refine vl (Y.pickT _ c71 rfl rfl) ?_
   refine GO.nil ?_
   refine p2 ?_
   exact hK72 _ _ l0 (Option.some.inj h).symm
  replace h := ite_f c71 h
  refine gf 64 c71 ?_
  refine vl (Y.pickF _ c71 rfl rfl) ?_
  refine GO.nil ?_
  refine p2 ?_
  exact hK72 _ _ l0 (Option.some.inj h).symm
 rintro _ S73 e74 rfl
 replace q8 := q8.up e74
 replace q15 := q15.up e74
 replace q30 := q30.up e74
 replace q48 := q48.up e74
 refine mv ?_
 obtain ⟨b75, wb75, h⟩ := bind_some' h
 refine GO.joinB 4 71 (b75 = ·) (fun K77 hK77 => ?_) ?_
 ·replace h := wb75
  rcases Bool.eq_false_or_eq_true b70 with c76 | c76
  ·replace h := ite_t c76 h
   refine gv 67 c76 (Y.fieldAddr 64 rfl fld25_2 rfl) ?_
   refine gv 67 c76 (Y.loadV 2  2 _ rfl rfl rfl rfl one3) ?_
   refine gv 67 c76 (Y.eqI rfl rfl) ?_
   refine vl (Y.pickT _ c76 rfl rfl) ?_
   refine GO.nil ?_
   refine p2 (p2 (p2 ?_))
   exact hK77 _ _ l0 (Option.some.inj h).symm
  replace h := ite_f c76 h
  refine gf 67 c76 ?_
  refine gf 67 c76 ?_
  refine gf 67 c76 ?_
  refine vl (Y.pickF _ c76 rfl rfl) ?_
  refine GO.nil ?_
  refine p2 (p2 (p2 ?_))
  exact hK77 _ _ l0 (Option.some.inj h).symm
 rintro _ S78 e79 rfl
 replace q8 := q8.up e79
 replace q15 := q15.up e79
 replace q30 := q30.up e79
 replace q48 := q48.up e79
 refine mv ?_
 obtain ⟨b80, wb80, h⟩ := bind_some' h
 refine GO.joinB 5 77 (b80 = ·) (fun K82 hK82 => ?_) ?_
 ·replace h := wb80
  rcases Bool.eq_false_or_eq_true b75 with c81 | c81
  ·replace h := ite_t c81 h
   refine gv 72 c81 (Y.fieldAddr 198 rfl fld34_3 rfl) ?_
   refine gv 72 c81 (Y.loadV 3  12 _ rfl rfl rfl rfl one32) ?_
   refine gv 72 c81 (Y.lenS rfl q30 slc32) ?_
   refine gv 72 c81 (Y.eqI rfl rfl) ?_
   refine vl (Y.pickT _ c81 rfl rfl) ?_
   refine GO.nil ?_
   refine p2 (p2 (p2 (p2 ?_)))
   exact hK82 _ _ l0 (Option.some.inj h).symm
  replace h := ite_f c81 h
  refine gf 72 c81 ?_
  refine gf 72 c81 ?_
  refine gf 72 c81 ?_
  refine gf 72 c81 ?_
  refine vl (Y.pickF _ c81 rfl rfl) ?_
  refine GO.nil ?_
  refine p2 (p2 (p2 (p2 ?_)))
  exact hK82 _ _ l0 (Option.some.inj h).symm
 rintro _ S83 e84 rfl
 replace q8 := q8.up e84
 replace q15 := q15.up e84
 replace q30 := q30.up e84
 replace q48 := q48.up e84
 refine mv ?_
 obtain ⟨b85, wb85, h⟩ := bind_some' h
 refine GO.joinB 3 81 (b85 = ·) (fun K87 hK87 => ?_) ?_
 ·replace h := wb85
  rcases Bool.eq_false_or_eq_true b80 with c86 | c86
  ·replace h := ite_t c86 h
   refine gv 78 c86 (Y.move rfl) ?_
   refine gv 78 c86 (Y.eqI rfl rfl) ?_
   refine vl (Y.pickT _ c86 rfl rfl) ?_
   refine GO.nil ?_
   refine p2 (p2 ?_)
   exact hK87 _ _ l0 (Option.some.inj h).symm
  replace h := ite_f c86 h
  refine gf 78 c86 ?_
  refine gf 78 c86 ?_
  refine vl (Y.pickF _ c86 rfl rfl) ?_
  refine GO.nil ?_
  refine p2 (p2 ?_)
  exact hK87 _ _ l0 (Option.some.inj h).symm
 rintro _ S88 e89 rfl
 replace q8 := q8.up e89
 replace q15 := q15.up e89
 replace q30 := q30.up e89
 replace q48 := q48.up e89
 refine mv ?_
 obtain ⟨b90, wb90, h⟩ := bind_some' h
 refine GO.joinB 3 85 (b90 = ·) (fun K92 hK92 => ?_) ?_
 ·replace h := wb90
  rcases Bool.eq_false_or_eq_true b85 with c91 | c91
  ·replace h := ite_t c91 h
   refine gv 82 c91 (Y.move rfl) ?_
   refine gv 82 c91 (Y.eqI rfl rfl) ?_
   refine vl (Y.pickT _ c91 rfl rfl) ?_
   refine GO.nil ?_
   refine p2 (p2 ?_)
   exact hK92 _ _ l0 (Option.some.inj h).symm
  replace h := ite_f c91 h
  refine gf 82 c91 ?_
  refine gf 82 c91 ?_
  refine vl (Y.pickF _ c91 rfl rfl) ?_
  refine GO.nil ?_
  refine p2 (p2 ?_)
  exact hK92 _ _ l0 (Option.some.inj h).symm
 rintro _ S93 e94 rfl
 replace q8 := q8.up e94
 replace q15 := q15.up e94
 replace q30 := q30.up e94
 replace q48 := q48.up e94
 refine mv ?_
 obtain ⟨b95, wb95, h⟩ := bind_some' h
 refine GO.joinB 3 89 (b95 = ·) (fun K97 hK97 => ?_) ?_
 ·replace h := wb95
  rcases Bool.eq_false_or_eq_true b90 with c96 | c96
  ·replace h := ite_t c96 h
   refine gv 86 c96 (Y.move rfl) ?_
   refine gv 86 c96 (Y.not rfl) ?_
   refine vl (Y.pickT _ c96 rfl rfl) ?_
   refine GO.nil ?_
   refine p2 (p2 ?_)
   exact hK97 _ _ l0 (Option.some.inj h).symm
  replace h := ite_f c96 h
  refine gf 86 c96 ?_
  refine gf 86 c96 ?_
  refine vl (Y.pickF _ c96 rfl rfl) ?_
  refine GO.nil ?_
  refine p2 (p2 ?_)
  exact hK97 _ _ l0 (Option.some.inj h).symm
 rintro _ S98 e99 rfl
 replace q8 := q8.up e99
 replace q15 := q15.up e99
 replace q30 := q30.up e99
 replace q48 := q48.up e99
 refine an ?_
 refine nt hK59 ?_
 refine G.ret ?_
 obtain rfl := Option.some.inj h
 exact hret _ _ _ _ 6 (l2 e7 (l2 e12 (l2 e19 (l2 e27 (l2 e37 (l2 e45 (l2 e55 (l2 e64 (l2 e69 (l2 e74 (l2 e79 (l2 e84 (l2 e89 (l2 e94 e99)))))))))))))) (.cons (.tmp rfl) .nil) rfl rfl

/- chirograph/chirographlaw18.ProofChecks -/
end
end Go.Ch
end
section
/- Functions of the program: what each comes to, proved. -/
set_option linter.unusedVariables false
set_option linter.unusedSimpArgs false
set_option maxRecDepth 100000
set_option maxHeartbeats 4000000
namespace Go.Ch
open Go.RowKit (wrap64)
open Go.Proofs
noncomputable section
/- chirograph/chirographlaw03.Cut -/
def l03_Cut  (a0 : Str) (a1 : Int) : Option Str :=
 (if (decide (a1 < (lenI a0))) = true then ((req ((0 : Int) ≤ 0 ∧ 0 ≤ a1 ∧ a1 ≤ lenI a0)).bind fun _ => some (cutL a0 0 a1)) else some a0)

theorem l03_Cut_ok {S : Hp} (a0 : Str) (a1 : Int) {r : Str} (h : l03_Cut a0 a1 = some r) : Fn Tryz.prog 32 [strV a0, .int .i64 a1] S (fun v S' => v = strV r) := by
 unfold l03_Cut at h
 refine fo [.tmp 4] 13 Tryz.func32 Tryz.ntmps32 (fun o F Q hQ hN hret => ?_)
 refine sr (fun _ hK1 => ?_)
 refine an ?_
 refine nt hK1 ?_
 refine G.seq (fun _ hK2 => ?_)
 refine sr (fun _ hK3 => ?_)
 refine mv ?_
 refine vl (Y.lenStr (v := a0) rfl sty9) ?_
 refine mv ?_
 refine vl (Y.gtI rfl rfl) ?_
 refine nt hK3 ?_
 refine G.cond _ rfl (fun c4 => ?_) (fun c4 => ?_)
 ·replace h := ite_t c4 h
  refine sr (fun _ hK5 => ?_)
  refine mv ?_
  refine mv ?_
  obtain ⟨g6, h⟩ := req_bind h
  refine vl (Y.sliceStr (a := a0) 0 a1 none (some (.int .i64 a1)) rfl sty9 rfl rfl (.inl ⟨rfl, rfl⟩) (.inr ⟨_, rfl⟩) g6) ?_
  refine an ?_
  refine nt hK5 ?_
  refine G.ret ?_
  obtain rfl := Option.some.inj h
  exact hret _ _ _ _ 0 l0 (.cons (.tmp rfl) .nil) rfl rfl
 replace h := ite_f c4 h
 refine sk hK2 ?_
 refine sr (fun _ hK7 => ?_)
 refine mv ?_
 refine an ?_
 refine nt hK7 ?_
 refine G.ret ?_
 obtain rfl := Option.some.inj h
 exact hret _ _ _ _ 0 l0 (.cons (.tmp rfl) .nil) rfl rfl

end
end Go.Ch
end
section
/- Functions of the program: what each comes to, proved. -/
set_option linter.unusedVariables false
set_option linter.unusedSimpArgs false
set_option maxRecDepth 100000
set_option maxHeartbeats 4000000
namespace Go.Ch
open Go.RowKit (wrap64)
open Go.Proofs
noncomputable section
/- chirograph/chirographref15.Read -/
def r15_Read  (a0 : Str) : Option (Leaf × Item × Item × Bool × Int) :=
 ((r02_Open a0).bind fun t9 => ((r02_ReadFlag t9).bind fun t14 => (if t14.2 = true then ((r15_ReadItem t14.1).bind fun t32 => ((r15_ReadItem t32.1).bind fun t37 => ((r02_Done t37.1).bind fun t44 => (if (t44 != (0 : Int)) = true then some ((⟨zL, zL, 0⟩ : Leaf), (⟨0, zL, zL, 0⟩ : Item), (⟨0, zL, zL, 0⟩ : Item), false, t44) else (if t14.2 = true then ((r15_Check t32.2 t37.2).bind fun t56 => (if (t56 != (0 : Int)) = true then some ((⟨zL, zL, 0⟩ : Leaf), (⟨0, zL, zL, 0⟩ : Item), (⟨0, zL, zL, 0⟩ : Item), false, t56) else some ((⟨zL, zL, 0⟩ : Leaf), t32.2, t37.2, t14.2, (0 : Int)))) else (if (decide ((1073741824 : Int) < 0)) = true then (if ((1 : Int) != (0 : Int)) = true then some ((⟨zL, zL, 0⟩ : Leaf), (⟨0, zL, zL, 0⟩ : Item), (⟨0, zL, zL, 0⟩ : Item), false, (1 : Int)) else some ((⟨zL, zL, 0⟩ : Leaf), t32.2, t37.2, t14.2, (0 : Int))) else (if ((0 : Int) != (0 : Int)) = true then some ((⟨zL, zL, 0⟩ : Leaf), (⟨0, zL, zL, 0⟩ : Item), (⟨0, zL, zL, 0⟩ : Item), false, (0 : Int)) else some ((⟨zL, zL, 0⟩ : Leaf), t32.2, t37.2, t14.2, (0 : Int))))))))) else ((r15_ReadLeaf t14.1).bind fun t78 => ((r02_Done t78.1).bind fun t85 => (if (t85 != (0 : Int)) = true then some ((⟨zL, zL, 0⟩ : Leaf), (⟨0, zL, zL, 0⟩ : Item), (⟨0, zL, zL, 0⟩ : Item), false, t85) else (if t14.2 = true then ((r15_Check (⟨0, zL, zL, 0⟩ : Item) (⟨0, zL, zL, 0⟩ : Item)).bind fun t97 => (if (t97 != (0 : Int)) = true then some ((⟨zL, zL, 0⟩ : Leaf), (⟨0, zL, zL, 0⟩ : Item), (⟨0, zL, zL, 0⟩ : Item), false, t97) else some (t78.2, (⟨0, zL, zL, 0⟩ : Item), (⟨0, zL, zL, 0⟩ : Item), t14.2, (0 : Int)))) else (if (decide ((1073741824 : Int) < t78.2.at_)) = true then (if ((1 : Int) != (0 : Int)) = true then some ((⟨zL, zL, 0⟩ : Leaf), (⟨0, zL, zL, 0⟩ : Item), (⟨0, zL, zL, 0⟩ : Item), false, (1 : Int)) else some (t78.2, (⟨0, zL, zL, 0⟩ : Item), (⟨0, zL, zL, 0⟩ : Item), t14.2, (0 : Int))) else (if ((0 : Int) != (0 : Int)) = true then some ((⟨zL, zL, 0⟩ : Leaf), (⟨0, zL, zL, 0⟩ : Item), (⟨0, zL, zL, 0⟩ : Item), false, (0 : Int)) else some (t78.2, (⟨0, zL, zL, 0⟩ : Item), (⟨0, zL, zL, 0⟩ : Item), t14.2, (0 : Int)))))))))))

theorem r15_Read_ok {S : Hp} (a0 : Str) {r : Leaf × Item × Item × Bool × Int} (h : r15_Read a0 = some r) : Fn Tryz.prog 98 [strV a0] S (fun v S' => v = .tuple #[aggV [sL r.1.label, sL r.1.value, sV (.int .i64 r.1.at_)], aggV [sV (.int .i64 r.2.1.len), sL r.2.1.bits, sL r.2.1.sum, sV (.int .i64 r.2.1.at_)], aggV [sV (.int .i64 r.2.2.1.len), sL r.2.2.1.bits, sL r.2.2.1.sum, sV (.int .i64 r.2.2.1.at_)], .bool r.2.2.2.1, .int .i64 r.2.2.2.2]) := by
 unfold r15_Read at h
 refine fo [.cell 2 41, .cell 3 45, .cell 4 45, .tmp 5, .tmp 6] 64 Tryz.func98 Tryz.ntmps98 (fun o F Q hQ hN hret => ?_)
 refine sr (fun _ hK1 => ?_)
 refine st (OS.alloc _ (by decide) zero41 (fun ad2 => ?_))
 refine st (OS.alloc _ (by decide) zero45 (fun ad4 => ?_))
 refine st (OS.alloc _ (by decide) zero45 (fun ad6 => ?_))
 refine an ?_
 refine an ?_
 refine nt hK1 ?_
 refine sr (fun _ hK8 => ?_)
 refine mv ?_
 obtain ⟨t9, wt9, h⟩ := bind_some' h
 refine st (cl fb96 (r02_Open_ok a0 wt9) (fun v10 S11 e12 z13 => ?_))
 obtain rfl := z13
 obtain ⟨t14, wt14, h⟩ := bind_some' h
 refine st (cl fb171 (r02_ReadFlag_ok t9 wt14) (fun v15 S16 e17 z18 => ?_))
 obtain rfl := z18
 refine mv ?_
 refine vl (Y.extract _ rfl rfl) ?_
 refine vl (Y.extract _ rfl rfl) ?_
 refine st (OS.alloc _ (by decide) zero155 (fun ad19 => ?_))
 refine sf 0 3 [sV (strV t14.1.s), sV (.int .i64 t14.1.at_), sV (.int .i64 t14.1.err)] (aggV_cells _) (oI (oI (oI oN))) size155 ?_
 refine an ?_
 refine nt hK8 ?_
 refine sr (fun _ hK21 => ?_)
 refine vl (Y.buildE _ [sL zL, sL zL, sV (.int .i64 0)] strt41 zero41 rfl .nil) ?_
 refine vl (Y.buildE _ [sV (.int .i64 0), sL zL, sL zL, sV (.int .i64 0)] strt45 zero45 rfl .nil) ?_
 refine vl (Y.buildE _ [sV (.int .i64 0), sL zL, sL zL, sV (.int .i64 0)] strt45 zero45 rfl .nil) ?_
 refine st (OS.alloc _ (by decide) zero41 (fun ad22 => ?_))
 refine st (OS.alloc _ (by decide) zero45 (fun ad24 => ?_))
 refine st (OS.alloc _ (by decide) zero45 (fun ad26 => ?_))
 refine sf 2 3 [sL zL, sL zL, sV (.int .i64 0)] (aggV_cells _) (oL (oL (oI oN))) size41 ?_
 refine sf 1 4 [sV (.int .i64 0), sL zL, sL zL, sV (.int .i64 0)] (aggV_cells _) (oI (oL (oL (oI oN)))) size45 ?_
 refine sf 0 4 [sV (.int .i64 0), sL zL, sL zL, sV (.int .i64 0)] (aggV_cells _) (oI (oL (oL (oI oN)))) size45 ?_
 refine nt hK21 ?_
 refine G.seq (fun _ hK28 => ?_)
 refine sr (fun _ hK29 => ?_)
 refine mv ?_
 refine nt hK29 ?_
 refine G.cond _ rfl (fun c30 => ?_) (fun c30 => ?_)
 ·replace h := ite_t c30 h
  refine sr (fun _ hK31 => ?_)
  refine lb 3 0 3 [sV (strV t14.1.s), sV (.int .i64 t14.1.at_), sV (.int .i64 t14.1.err)] row155 ?_
  obtain ⟨t32, wt32, h⟩ := bind_some' h
  refine st (cl fb99 (r15_ReadItem_ok t14.1 wt32) (fun v33 S34 e35 z36 => ?_))
  obtain rfl := z36
  refine mv ?_
  refine vl (Y.extract _ rfl rfl) ?_
  refine vl (Y.extract _ rfl rfl) ?_
  refine sf 3 3 [sV (strV t32.1.s), sV (.int .i64 t32.1.at_), sV (.int .i64 t32.1.err)] (aggV_cells _) (oI (oI (oI oN))) size155 ?_
  refine sf 1 4 [sV (.int .i64 t32.2.len), sL t32.2.bits, sL t32.2.sum, sV (.int .i64 t32.2.at_)] (aggV_cells _) (oI (oL (oL (oI oN)))) size45 ?_
  refine nt hK31 ?_
  refine G.region ?_
  refine lb 3 0 3 [sV (strV t32.1.s), sV (.int .i64 t32.1.at_), sV (.int .i64 t32.1.err)] row155 ?_
  obtain ⟨t37, wt37, h⟩ := bind_some' h
  refine st (cl fb99 (r15_ReadItem_ok t32.1 wt37) (fun v38 S39 e40 z41 => ?_))
  obtain rfl := z41
  refine mv ?_
  refine vl (Y.extract _ rfl rfl) ?_
  refine vl (Y.extract _ rfl rfl) ?_
  refine sf 3 3 [sV (strV t37.1.s), sV (.int .i64 t37.1.at_), sV (.int .i64 t37.1.err)] (aggV_cells _) (oI (oI (oI oN))) size155 ?_
  refine sf 0 4 [sV (.int .i64 t37.2.len), sL t37.2.bits, sL t37.2.sum, sV (.int .i64 t37.2.at_)] (aggV_cells _) (oI (oL (oL (oI oN)))) size45 ?_
  refine nt hK28 ?_
  refine G.seq (fun _ hK42 => ?_)
  refine sr (fun _ hK43 => ?_)
  refine lb 3 0 3 [sV (strV t37.1.s), sV (.int .i64 t37.1.at_), sV (.int .i64 t37.1.err)] row155 ?_
  obtain ⟨t44, wt44, h⟩ := bind_some' h
  refine st (cl fb101 (r02_Done_ok t37.1 wt44) (fun v45 S46 e47 z48 => ?_))
  obtain rfl := z48
  refine an ?_
  refine nt hK43 ?_
  refine sr (fun _ hK49 => ?_)
  refine mv ?_
  refine vl (Y.neI rfl rfl) ?_
  refine nt hK49 ?_
  refine G.cond _ rfl (fun c50 => ?_) (fun c50 => ?_)
  ·replace h := ite_t c50 h
   refine sr (fun _ hK51 => ?_)
   refine vl (Y.buildE _ [sL zL, sL zL, sV (.int .i64 0)] strt41 zero41 rfl .nil) ?_
   refine vl (Y.buildE _ [sV (.int .i64 0), sL zL, sL zL, sV (.int .i64 0)] strt45 zero45 rfl .nil) ?_
   refine vl (Y.buildE _ [sV (.int .i64 0), sL zL, sL zL, sV (.int .i64 0)] strt45 zero45 rfl .nil) ?_
   refine mv ?_
   refine sf 6 3 [sL zL, sL zL, sV (.int .i64 0)] (aggV_cells _) (oL (oL (oI oN))) size41 ?_
   refine sf 5 4 [sV (.int .i64 0), sL zL, sL zL, sV (.int .i64 0)] (aggV_cells _) (oI (oL (oL (oI oN)))) size45 ?_
   refine sf 4 4 [sV (.int .i64 0), sL zL, sL zL, sV (.int .i64 0)] (aggV_cells _) (oI (oL (oL (oI oN)))) size45 ?_
   refine an ?_
   refine an ?_
   refine nt hK51 ?_
   refine G.ret ?_
   obtain rfl := Option.some.inj h
   exact hret _ _ _ _ 7 (l2 e12 (l2 e17 (l2 e35 (l2 e40 e47)))) (.cons (.row (k := 6) rfl rfl row41 (by kernel_rfl)) (.cons (.row (k := 5) rfl rfl row45 (by kernel_rfl)) (.cons (.row (k := 4) rfl rfl row45 (by kernel_rfl)) (.cons (.tmp rfl) (.cons (.tmp rfl) .nil))))) rfl rfl
  replace h := ite_f c50 h
  refine sk hK42 ?_
  refine sr (fun _ hK52 => ?_)
  refine an ?_
  refine nt hK52 ?_
  refine G.seq (fun _ hK53 => ?_)
  refine sr (fun _ hK54 => ?_)
  refine mv ?_
  refine nt hK54 ?_
  refine G.cond _ rfl (fun c55 => ?_) (fun c55 => ?_)
  ·replace h := ite_t c55 h
   refine G.region ?_
   refine lb 1 0 4 [sV (.int .i64 t32.2.len), sL t32.2.bits, sL t32.2.sum, sV (.int .i64 t32.2.at_)] row45 ?_
   refine lb 0 0 4 [sV (.int .i64 t37.2.len), sL t37.2.bits, sL t37.2.sum, sV (.int .i64 t37.2.at_)] row45 ?_
   obtain ⟨t56, wt56, h⟩ := bind_some' h
   refine st (cl fb58 (r15_Check_ok t32.2 t37.2 wt56) (fun v57 S58 e59 z60 => ?_))
   obtain rfl := z60
   refine an ?_
   refine nt hK53 ?_
   refine G.seq (fun _ hK61 => ?_)
   refine sr (fun _ hK62 => ?_)
   refine mv ?_
   refine vl (Y.neI rfl rfl) ?_
   refine nt hK62 ?_
   refine G.cond _ rfl (fun c63 => ?_) (fun c63 => ?_)
   ·replace h := ite_t c63 h
    refine sr (fun _ hK64 => ?_)
    refine vl (Y.buildE _ [sL zL, sL zL, sV (.int .i64 0)] strt41 zero41 rfl .nil) ?_
    refine vl (Y.buildE _ [sV (.int .i64 0), sL zL, sL zL, sV (.int .i64 0)] strt45 zero45 rfl .nil) ?_
    refine vl (Y.buildE _ [sV (.int .i64 0), sL zL, sL zL, sV (.int .i64 0)] strt45 zero45 rfl .nil) ?_
    refine mv ?_
    refine sf 6 3 [sL zL, sL zL, sV (.int .i64 0)] (aggV_cells _) (oL (oL (oI oN))) size41 ?_
    refine sf 5 4 [sV (.int .i64 0), sL zL, sL zL, sV (.int .i64 0)] (aggV_cells _) (oI (oL (oL (oI oN)))) size45 ?_
    refine sf 4 4 [sV (.int .i64 0), sL zL, sL zL, sV (.int .i64 0)] (aggV_cells _) (oI (oL (oL (oI oN)))) size45 ?_
    refine an ?_
    refine an ?_
    refine nt hK64 ?_
    refine G.ret ?_
    obtain rfl := Option.some.inj h
    exact hret _ _ _ _ 7 (l2 e12 (l2 e17 (l2 e35 (l2 e40 (l2 e47 e59))))) (.cons (.row (k := 6) rfl rfl row41 (by kernel_rfl)) (.cons (.row (k := 5) rfl rfl row45 (by kernel_rfl)) (.cons (.row (k := 4) rfl rfl row45 (by kernel_rfl)) (.cons (.tmp rfl) (.cons (.tmp rfl) .nil))))) rfl rfl
   replace h := ite_f c63 h
   refine sk hK61 ?_
   refine G.seq (fun _ hK65 => ?_)
   refine G.drawS 4 _ (Blk ad26 [sV (.int .i64 t37.2.len), sL t37.2.bits, sL t37.2.sum, sV (.int .i64 t37.2.at_)] :: Blk ad24 [sV (.int .i64 t32.2.len), sL t32.2.bits, sL t32.2.sum, sV (.int .i64 t32.2.at_)] :: Blk ad22 [sL zL, sL zL, sV (.int .i64 0)] :: Blk ad19 [sV (strV t37.1.s), sV (.int .i64 t37.1.at_), sV (.int .i64 t37.1.err)] :: (fun _ => True) :: (fun _ => True) :: (fun _ => True) :: F) mixed .refl (by kernel_rfl) ?_
   refine tx 0 rfl (.same (.same (.same (.same (.lose (.lose (.lose .refl))))))) hQ (fun S₀ X₀ e₀ => Y.loadB (X₀.length + 2)  0 3 [sL zL, sL zL, sV (.int .i64 0)] rfl (Lk rfl) rfl rfl row41 (by kernel_rfl)) ?_
   refine tx 1 rfl (.same (.same (.same (.same (.lose (.lose (.lose .refl))))))) hQ (fun S₀ X₀ e₀ => Y.loadB (X₀.length + 1)  0 4 [sV (.int .i64 t32.2.len), sL t32.2.bits, sL t32.2.sum, sV (.int .i64 t32.2.at_)] rfl (Lk rfl) rfl rfl row45 (by kernel_rfl)) ?_
   refine tx 2 rfl (.same (.same (.same (.same (.lose (.lose (.lose .refl))))))) hQ (fun S₀ X₀ e₀ => Y.loadB (X₀.length + 0)  0 4 [sV (.int .i64 t37.2.len), sL t37.2.bits, sL t37.2.sum, sV (.int .i64 t37.2.at_)] rfl (Lk rfl) rfl rfl row45 (by kernel_rfl)) ?_
   refine tx 3 rfl (.same (.same (.same (.same (.lose (.lose (.lose .refl))))))) hQ (fun _ _ _ => Y.move rfl) ?_
   refine g1 4 ?_
   refine n2 rfl (OS.store 6 0 3 [sL zL, sL zL, sV (.int .i64 0)] (r := [sL zL, sL zL, sV (.int .i64 0)]) rfl rfl (aggV_cells _) (oL (oL (oI oN))) rfl rfl size41 (by kernel_rfl) (by kernel_rfl) (by kernel_rfl) ⟨⟨[], (.same (.same (.same (.same (.lose (.lose (.lose .refl))))))), l0⟩, ?_⟩)
   refine g1 5 ?_
   refine n2 rfl (OS.store 5 0 4 [sV (.int .i64 t32.2.len), sL t32.2.bits, sL t32.2.sum, sV (.int .i64 t32.2.at_)] (r := [sV (.int .i64 t32.2.len), sL t32.2.bits, sL t32.2.sum, sV (.int .i64 t32.2.at_)]) rfl rfl (aggV_cells _) (oI (oL (oL (oI oN)))) rfl rfl size45 (by kernel_rfl) (by kernel_rfl) (by kernel_rfl) ⟨⟨[], (.same (.same (.same (.same (.lose (.lose (.lose .refl))))))), l0⟩, ?_⟩)
   refine g1 6 ?_
   refine n2 rfl (OS.store 4 0 4 [sV (.int .i64 t37.2.len), sL t37.2.bits, sL t37.2.sum, sV (.int .i64 t37.2.at_)] (r := [sV (.int .i64 t37.2.len), sL t37.2.bits, sL t37.2.sum, sV (.int .i64 t37.2.at_)]) rfl rfl (aggV_cells _) (oI (oL (oL (oI oN)))) rfl rfl size45 (by kernel_rfl) (by kernel_rfl) (by kernel_rfl) ⟨⟨[], (.same (.same (.same (.same (.lose (.lose (.lose .refl))))))), l0⟩, ?_⟩)
   refine tx 7 rfl (.same (.same (.same (.same (.lose (.lose (.lose .refl))))))) hQ (fun _ _ _ => Y.assign rfl) ?_
   refine tx 8 rfl (.same (.same (.same (.same (.lose (.lose (.lose .refl))))))) hQ (fun _ _ _ => Y.assign rfl) ?_
   refine dn ?_
   refine GX.then hK65 ?_
   refine G.ret ?_
   obtain rfl := Option.some.inj h
   exact hret _ _ _ _ 7 (l2 e12 (l2 e17 (l2 e35 (l2 e40 (l2 e47 e59))))) (.cons (.row (k := 6) rfl rfl row41 (by kernel_rfl)) (.cons (.row (k := 5) rfl rfl row45 (by kernel_rfl)) (.cons (.row (k := 4) rfl rfl row45 (by kernel_rfl)) (.cons (.tmp rfl) (.cons (.tmp rfl) .nil))))) rfl rfl
  replace h := ite_f c55 h
  refine sr (fun _ hK66 => ?_)
  refine vl (Y.fieldAddr 64 rfl fld41_2 rfl) ?_
  refine lv 2 2 one3 ?_
  refine vl (Y.gtI rfl rfl) ?_
  refine nt hK66 ?_
  refine G.cond _ rfl (fun c67 => ?_) (fun c67 => ?_)
  ·replace h := ite_t c67 h
   refine G.region ?_
   refine an ?_
   refine nt hK53 ?_
   refine G.seq (fun _ hK68 => ?_)
   refine sr (fun _ hK69 => ?_)
   refine mv ?_
   refine vl (Y.neI rfl rfl) ?_
   refine nt hK69 ?_
   refine G.cond _ rfl (fun c70 => ?_) (fun c70 => ?_)
   ·replace h := ite_t c70 h
    refine sr (fun _ hK71 => ?_)
    refine vl (Y.buildE _ [sL zL, sL zL, sV (.int .i64 0)] strt41 zero41 rfl .nil) ?_
    refine vl (Y.buildE _ [sV (.int .i64 0), sL zL, sL zL, sV (.int .i64 0)] strt45 zero45 rfl .nil) ?_
    refine vl (Y.buildE _ [sV (.int .i64 0), sL zL, sL zL, sV (.int .i64 0)] strt45 zero45 rfl .nil) ?_
    refine mv ?_
    refine sf 6 3 [sL zL, sL zL, sV (.int .i64 0)] (aggV_cells _) (oL (oL (oI oN))) size41 ?_
    refine sf 5 4 [sV (.int .i64 0), sL zL, sL zL, sV (.int .i64 0)] (aggV_cells _) (oI (oL (oL (oI oN)))) size45 ?_
    refine sf 4 4 [sV (.int .i64 0), sL zL, sL zL, sV (.int .i64 0)] (aggV_cells _) (oI (oL (oL (oI oN)))) size45 ?_
    refine an ?_
    refine an ?_
    refine nt hK71 ?_
    refine G.ret ?_
    obtain rfl := Option.some.inj h
    exact hret _ _ _ _ 7 (l2 e12 (l2 e17 (l2 e35 (l2 e40 e47)))) (.cons (.row (k := 6) rfl rfl row41 (by kernel_rfl)) (.cons (.row (k := 5) rfl rfl row45 (by kernel_rfl)) (.cons (.row (k := 4) rfl rfl row45 (by kernel_rfl)) (.cons (.tmp rfl) (.cons (.tmp rfl) .nil))))) rfl rfl
   replace h := ite_f c70 h
   refine sk hK68 ?_
   refine G.seq (fun _ hK72 => ?_)
   refine G.drawS 4 _ (Blk ad26 [sV (.int .i64 t37.2.len), sL t37.2.bits, sL t37.2.sum, sV (.int .i64 t37.2.at_)] :: Blk ad24 [sV (.int .i64 t32.2.len), sL t32.2.bits, sL t32.2.sum, sV (.int .i64 t32.2.at_)] :: Blk ad22 [sL zL, sL zL, sV (.int .i64 0)] :: Blk ad19 [sV (strV t37.1.s), sV (.int .i64 t37.1.at_), sV (.int .i64 t37.1.err)] :: (fun _ => True) :: (fun _ => True) :: (fun _ => True) :: F) mixed .refl (by kernel_rfl) ?_
   refine tx 0 rfl (.same (.same (.same (.same (.lose (.lose (.lose .refl))))))) hQ (fun S₀ X₀ e₀ => Y.loadB (X₀.length + 2)  0 3 [sL zL, sL zL, sV (.int .i64 0)] rfl (Lk rfl) rfl rfl row41 (by kernel_rfl)) ?_
   refine tx 1 rfl (.same (.same (.same (.same (.lose (.lose (.lose .refl))))))) hQ (fun S₀ X₀ e₀ => Y.loadB (X₀.length + 1)  0 4 [sV (.int .i64 t32.2.len), sL t32.2.bits, sL t32.2.sum, sV (.int .i64 t32.2.at_)] rfl (Lk rfl) rfl rfl row45 (by kernel_rfl)) ?_
   refine tx 2 rfl (.same (.same (.same (.same (.lose (.lose (.lose .refl))))))) hQ (fun S₀ X₀ e₀ => Y.loadB (X₀.length + 0)  0 4 [sV (.int .i64 t37.2.len), sL t37.2.bits, sL t37.2.sum, sV (.int .i64 t37.2.at_)] rfl (Lk rfl) rfl rfl row45 (by kernel_rfl)) ?_
   refine tx 3 rfl (.same (.same (.same (.same (.lose (.lose (.lose .refl))))))) hQ (fun _ _ _ => Y.move rfl) ?_
   refine g1 4 ?_
   refine n2 rfl (OS.store 6 0 3 [sL zL, sL zL, sV (.int .i64 0)] (r := [sL zL, sL zL, sV (.int .i64 0)]) rfl rfl (aggV_cells _) (oL (oL (oI oN))) rfl rfl size41 (by kernel_rfl) (by kernel_rfl) (by kernel_rfl) ⟨⟨[], (.same (.same (.same (.same (.lose (.lose (.lose .refl))))))), l0⟩, ?_⟩)
   refine g1 5 ?_
   refine n2 rfl (OS.store 5 0 4 [sV (.int .i64 t32.2.len), sL t32.2.bits, sL t32.2.sum, sV (.int .i64 t32.2.at_)] (r := [sV (.int .i64 t32.2.len), sL t32.2.bits, sL t32.2.sum, sV (.int .i64 t32.2.at_)]) rfl rfl (aggV_cells _) (oI (oL (oL (oI oN)))) rfl rfl size45 (by kernel_rfl) (by kernel_rfl) (by kernel_rfl) ⟨⟨[], (.same (.same (.same (.same (.lose (.lose (.lose .refl))))))), l0⟩, ?_⟩)
   refine g1 6 ?_
   refine n2 rfl (OS.store 4 0 4 [sV (.int .i64 t37.2.len), sL t37.2.bits, sL t37.2.sum, sV (.int .i64 t37.2.at_)] (r := [sV (.int .i64 t37.2.len), sL t37.2.bits, sL t37.2.sum, sV (.int .i64 t37.2.at_)]) rfl rfl (aggV_cells _) (oI (oL (oL (oI oN)))) rfl rfl size45 (by kernel_rfl) (by kernel_rfl) (by kernel_rfl) ⟨⟨[], (.same (.same (.same (.same (.lose (.lose (.lose .refl))))))), l0⟩, ?_⟩)
   refine tx 7 rfl (.same (.same (.same (.same (.lose (.lose (.lose .refl))))))) hQ (fun _ _ _ => Y.assign rfl) ?_
   refine tx 8 rfl (.same (.same (.same (.same (.lose (.lose (.lose .refl))))))) hQ (fun _ _ _ => Y.assign rfl) ?_
   refine dn ?_
   refine GX.then hK72 ?_
   refine G.ret ?_
   obtain rfl := Option.some.inj h
   exact hret _ _ _ _ 7 (l2 e12 (l2 e17 (l2 e35 (l2 e40 e47)))) (.cons (.row (k := 6) rfl rfl row41 (by kernel_rfl)) (.cons (.row (k := 5) rfl rfl row45 (by kernel_rfl)) (.cons (.row (k := 4) rfl rfl row45 (by kernel_rfl)) (.cons (.tmp rfl) (.cons (.tmp rfl) .nil))))) rfl rfl
  replace h := ite_f c67 h
  refine sk hK53 ?_
  refine G.seq (fun _ hK73 => ?_)
  refine sr (fun _ hK74 => ?_)
  refine mv ?_
  refine vl (Y.neI rfl rfl) ?_
  refine nt hK74 ?_
  refine G.cond _ rfl (fun c75 => ?_) (fun c75 => ?_)
  ·replace h := ite_t c75 h
   refine sr (fun _ hK76 => ?_)
   refine vl (Y.buildE _ [sL zL, sL zL, sV (.int .i64 0)] strt41 zero41 rfl .nil) ?_
   refine vl (Y.buildE _ [sV (.int .i64 0), sL zL, sL zL, sV (.int .i64 0)] strt45 zero45 rfl .nil) ?_
   refine vl (Y.buildE _ [sV (.int .i64 0), sL zL, sL zL, sV (.int .i64 0)] strt45 zero45 rfl .nil) ?_
   refine mv ?_
   refine sf 6 3 [sL zL, sL zL, sV (.int .i64 0)] (aggV_cells _) (oL (oL (oI oN))) size41 ?_
   refine sf 5 4 [sV (.int .i64 0), sL zL, sL zL, sV (.int .i64 0)] (aggV_cells _) (oI (oL (oL (oI oN)))) size45 ?_
   refine sf 4 4 [sV (.int .i64 0), sL zL, sL zL, sV (.int .i64 0)] (aggV_cells _) (oI (oL (oL (oI oN)))) size45 ?_
   refine an ?_
   refine an ?_
   refine nt hK76 ?_
   refine G.ret ?_
   obtain rfl := Option.some.inj h
   exact hret _ _ _ _ 7 (l2 e12 (l2 e17 (l2 e35 (l2 e40 e47)))) (.cons (.row (k := 6) rfl rfl row41 (by kernel_rfl)) (.cons (.row (k := 5) rfl rfl row45 (by kernel_rfl)) (.cons (.row (k := 4) rfl rfl row45 (by kernel_rfl)) (.cons (.tmp rfl) (.cons (.tmp rfl) .nil))))) rfl rfl
  replace h := ite_f c75 h
  refine sk hK73 ?_
  refine G.seq (fun _ hK77 => ?_)
  refine G.drawS 4 _ (Blk ad26 [sV (.int .i64 t37.2.len), sL t37.2.bits, sL t37.2.sum, sV (.int .i64 t37.2.at_)] :: Blk ad24 [sV (.int .i64 t32.2.len), sL t32.2.bits, sL t32.2.sum, sV (.int .i64 t32.2.at_)] :: Blk ad22 [sL zL, sL zL, sV (.int .i64 0)] :: Blk ad19 [sV (strV t37.1.s), sV (.int .i64 t37.1.at_), sV (.int .i64 t37.1.err)] :: (fun _ => True) :: (fun _ => True) :: (fun _ => True) :: F) mixed .refl (by kernel_rfl) ?_
  refine tx 0 rfl (.same (.same (.same (.same (.lose (.lose (.lose .refl))))))) hQ (fun S₀ X₀ e₀ => Y.loadB (X₀.length + 2)  0 3 [sL zL, sL zL, sV (.int .i64 0)] rfl (Lk rfl) rfl rfl row41 (by kernel_rfl)) ?_
  refine tx 1 rfl (.same (.same (.same (.same (.lose (.lose (.lose .refl))))))) hQ (fun S₀ X₀ e₀ => Y.loadB (X₀.length + 1)  0 4 [sV (.int .i64 t32.2.len), sL t32.2.bits, sL t32.2.sum, sV (.int .i64 t32.2.at_)] rfl (Lk rfl) rfl rfl row45 (by kernel_rfl)) ?_
  refine tx 2 rfl (.same (.same (.same (.same (.lose (.lose (.lose .refl))))))) hQ (fun S₀ X₀ e₀ => Y.loadB (X₀.length + 0)  0 4 [sV (.int .i64 t37.2.len), sL t37.2.bits, sL t37.2.sum, sV (.int .i64 t37.2.at_)] rfl (Lk rfl) rfl rfl row45 (by kernel_rfl)) ?_
  refine tx 3 rfl (.same (.same (.same (.same (.lose (.lose (.lose .refl))))))) hQ (fun _ _ _ => Y.move rfl) ?_
  refine g1 4 ?_
  refine n2 rfl (OS.store 6 0 3 [sL zL, sL zL, sV (.int .i64 0)] (r := [sL zL, sL zL, sV (.int .i64 0)]) rfl rfl (aggV_cells _) (oL (oL (oI oN))) rfl rfl size41 (by kernel_rfl) (by kernel_rfl) (by kernel_rfl) ⟨⟨[], (.same (.same (.same (.same (.lose (.lose (.lose .refl))))))), l0⟩, ?_⟩)
  refine g1 5 ?_
  refine n2 rfl (OS.store 5 0 4 [sV (.int .i64 t32.2.len), sL t32.2.bits, sL t32.2.sum, sV (.int .i64 t32.2.at_)] (r := [sV (.int .i64 t32.2.len), sL t32.2.bits, sL t32.2.sum, sV (.int .i64 t32.2.at_)]) rfl rfl (aggV_cells _) (oI (oL (oL (oI oN)))) rfl rfl size45 (by kernel_rfl) (by kernel_rfl) (by kernel_rfl) ⟨⟨[], (.same (.same (.same (.same (.lose (.lose (.lose .refl))))))), l0⟩, ?_⟩)
  refine g1 6 ?_
  refine n2 rfl (OS.store 4 0 4 [sV (.int .i64 t37.2.len), sL t37.2.bits, sL t37.2.sum, sV (.int .i64 t37.2.at_)] (r := [sV (.int .i64 t37.2.len), sL t37.2.bits, sL t37.2.sum, sV (.int .i64 t37.2.at_)]) rfl rfl (aggV_cells _) (oI (oL (oL (oI oN)))) rfl rfl size45 (by kernel_rfl) (by kernel_rfl) (by kernel_rfl) ⟨⟨[], (.same (.same (.same (.same (.lose (.lose (.lose .refl))))))), l0⟩, ?_⟩)
  refine tx 7 rfl (.same (.same (.same (.same (.lose (.lose (.lose .refl))))))) hQ (fun _ _ _ => Y.assign rfl) ?_
  refine tx 8 rfl (.same (.same (.same (.same (.lose (.lose (.lose .refl))))))) hQ (fun _ _ _ => Y.assign rfl) ?_
  refine dn ?_
  refine GX.then hK77 ?_
  refine G.ret ?_
  obtain rfl := Option.some.inj h
  exact hret _ _ _ _ 7 (l2 e12 (l2 e17 (l2 e35 (l2 e40 e47)))) (.cons (.row (k := 6) rfl rfl row41 (by kernel_rfl)) (.cons (.row (k := 5) rfl rfl row45 (by kernel_rfl)) (.cons (.row (k := 4) rfl rfl row45 (by kernel_rfl)) (.cons (.tmp rfl) (.cons (.tmp rfl) .nil))))) rfl rfl
 replace h := ite_f c30 h
 refine G.region ?_
 refine lb 3 0 3 [sV (strV t14.1.s), sV (.int .i64 t14.1.at_), sV (.int .i64 t14.1.err)] row155 ?_
 obtain ⟨t78, wt78, h⟩ := bind_some' h
 refine st (cl fb172 (r15_ReadLeaf_ok t14.1 wt78) (fun v79 S80 e81 z82 => ?_))
 obtain rfl := z82
 refine mv ?_
 refine vl (Y.extract _ rfl rfl) ?_
 refine vl (Y.extract _ rfl rfl) ?_
 refine sf 3 3 [sV (strV t78.1.s), sV (.int .i64 t78.1.at_), sV (.int .i64 t78.1.err)] (aggV_cells _) (oI (oI (oI oN))) size155 ?_
 refine sf 2 3 [sL t78.2.label, sL t78.2.value, sV (.int .i64 t78.2.at_)] (aggV_cells _) (oL (oL (oI oN))) size41 ?_
 refine nt hK28 ?_
 refine G.seq (fun _ hK83 => ?_)
 refine sr (fun _ hK84 => ?_)
 refine lb 3 0 3 [sV (strV t78.1.s), sV (.int .i64 t78.1.at_), sV (.int .i64 t78.1.err)] row155 ?_
 obtain ⟨t85, wt85, h⟩ := bind_some' h
 refine st (cl fb101 (r02_Done_ok t78.1 wt85) (fun v86 S87 e88 z89 => ?_))
 obtain rfl := z89
 refine an ?_
 refine nt hK84 ?_
 refine sr (fun _ hK90 => ?_)
 refine mv ?_
 refine vl (Y.neI rfl rfl) ?_
 refine nt hK90 ?_
 refine G.cond _ rfl (fun c91 => ?_) (fun c91 => ?_)
 ·replace h := ite_t c91 h
  refine sr (fun _ hK92 => ?_)
  refine vl (Y.buildE _ [sL zL, sL zL, sV (.int .i64 0)] strt41 zero41 rfl .nil) ?_
  refine vl (Y.buildE _ [sV (.int .i64 0), sL zL, sL zL, sV (.int .i64 0)] strt45 zero45 rfl .nil) ?_
  refine vl (Y.buildE _ [sV (.int .i64 0), sL zL, sL zL, sV (.int .i64 0)] strt45 zero45 rfl .nil) ?_
  refine mv ?_
  refine sf 6 3 [sL zL, sL zL, sV (.int .i64 0)] (aggV_cells _) (oL (oL (oI oN))) size41 ?_
  refine sf 5 4 [sV (.int .i64 0), sL zL, sL zL, sV (.int .i64 0)] (aggV_cells _) (oI (oL (oL (oI oN)))) size45 ?_
  refine sf 4 4 [sV (.int .i64 0), sL zL, sL zL, sV (.int .i64 0)] (aggV_cells _) (oI (oL (oL (oI oN)))) size45 ?_
  refine an ?_
  refine an ?_
  refine nt hK92 ?_
  refine G.ret ?_
  obtain rfl := Option.some.inj h
  exact hret _ _ _ _ 7 (l2 e12 (l2 e17 (l2 e81 e88))) (.cons (.row (k := 6) rfl rfl row41 (by kernel_rfl)) (.cons (.row (k := 5) rfl rfl row45 (by kernel_rfl)) (.cons (.row (k := 4) rfl rfl row45 (by kernel_rfl)) (.cons (.tmp rfl) (.cons (.tmp rfl) .nil))))) rfl rfl
 replace h := ite_f c91 h
 refine sk hK83 ?_
 refine sr (fun _ hK93 => ?_)
 refine an ?_
 refine nt hK93 ?_
 refine G.seq (fun _ hK94 => ?_)
 refine sr (fun _ hK95 => ?_)
 refine mv ?_
 refine nt hK95 ?_
 refine G.cond _ rfl (fun c96 => ?_) (fun c96 => ?_)
 ·replace h := ite_t c96 h
  refine G.region ?_
  refine lb 1 0 4 [sV (.int .i64 0), sL zL, sL zL, sV (.int .i64 0)] row45 ?_
  refine lb 0 0 4 [sV (.int .i64 0), sL zL, sL zL, sV (.int .i64 0)] row45 ?_
  obtain ⟨t97, wt97, h⟩ := bind_some' h
  refine st (cl fb58 (r15_Check_ok (⟨0, zL, zL, 0⟩ : Item) (⟨0, zL, zL, 0⟩ : Item) wt97) (fun v98 S99 e100 z101 => ?_))
  obtain rfl := z101
  refine an ?_
  refine nt hK94 ?_
  refine G.seq (fun _ hK102 => ?_)
  refine sr (fun _ hK103 => ?_)
  refine mv ?_
  refine vl (Y.neI rfl rfl) ?_
  refine nt hK103 ?_
  refine G.cond _ rfl (fun c104 => ?_) (fun c104 => ?_)
  ·replace h := ite_t c104 h
   refine sr (fun _ hK105 => ?_)
   refine vl (Y.buildE _ [sL zL, sL zL, sV (.int .i64 0)] strt41 zero41 rfl .nil) ?_
   refine vl (Y.buildE _ [sV (.int .i64 0), sL zL, sL zL, sV (.int .i64 0)] strt45 zero45 rfl .nil) ?_
   refine vl (Y.buildE _ [sV (.int .i64 0), sL zL, sL zL, sV (.int .i64 0)] strt45 zero45 rfl .nil) ?_
   refine mv ?_
   refine sf 6 3 [sL zL, sL zL, sV (.int .i64 0)] (aggV_cells _) (oL (oL (oI oN))) size41 ?_
   refine sf 5 4 [sV (.int .i64 0), sL zL, sL zL, sV (.int .i64 0)] (aggV_cells _) (oI (oL (oL (oI oN)))) size45 ?_
   refine sf 4 4 [sV (.int .i64 0), sL zL, sL zL, sV (.int .i64 0)] (aggV_cells _) (oI (oL (oL (oI oN)))) size45 ?_
   refine an ?_
   refine an ?_
   refine nt hK105 ?_
   refine G.ret ?_
   obtain rfl := Option.some.inj h
   exact hret _ _ _ _ 7 (l2 e12 (l2 e17 (l2 e81 (l2 e88 e100)))) (.cons (.row (k := 6) rfl rfl row41 (by kernel_rfl)) (.cons (.row (k := 5) rfl rfl row45 (by kernel_rfl)) (.cons (.row (k := 4) rfl rfl row45 (by kernel_rfl)) (.cons (.tmp rfl) (.cons (.tmp rfl) .nil))))) rfl rfl
  replace h := ite_f c104 h
  refine sk hK102 ?_
  refine G.seq (fun _ hK106 => ?_)
  refine G.drawS 4 _ (Blk ad26 [sV (.int .i64 0), sL zL, sL zL, sV (.int .i64 0)] :: Blk ad24 [sV (.int .i64 0), sL zL, sL zL, sV (.int .i64 0)] :: Blk ad22 [sL t78.2.label, sL t78.2.value, sV (.int .i64 t78.2.at_)] :: Blk ad19 [sV (strV t78.1.s), sV (.int .i64 t78.1.at_), sV (.int .i64 t78.1.err)] :: (fun _ => True) :: (fun _ => True) :: (fun _ => True) :: F) mixed .refl (by kernel_rfl) ?_
  refine tx 0 rfl (.same (.same (.same (.same (.lose (.lose (.lose .refl))))))) hQ (fun S₀ X₀ e₀ => Y.loadB (X₀.length + 2)  0 3 [sL t78.2.label, sL t78.2.value, sV (.int .i64 t78.2.at_)] rfl (Lk rfl) rfl rfl row41 (by kernel_rfl)) ?_
  refine tx 1 rfl (.same (.same (.same (.same (.lose (.lose (.lose .refl))))))) hQ (fun S₀ X₀ e₀ => Y.loadB (X₀.length + 1)  0 4 [sV (.int .i64 0), sL zL, sL zL, sV (.int .i64 0)] rfl (Lk rfl) rfl rfl row45 (by kernel_rfl)) ?_
  refine tx 2 rfl (.same (.same (.same (.same (.lose (.lose (.lose .refl))))))) hQ (fun S₀ X₀ e₀ => Y.loadB (X₀.length + 0)  0 4 [sV (.int .i64 0), sL zL, sL zL, sV (.int .i64 0)] rfl (Lk rfl) rfl rfl row45 (by kernel_rfl)) ?_
  refine tx 3 rfl (.same (.same (.same (.same (.lose (.lose (.lose .refl))))))) hQ (fun _ _ _ => Y.move rfl) ?_
  refine g1 4 ?_
  refine n2 rfl (OS.store 6 0 3 [sL t78.2.label, sL t78.2.value, sV (.int .i64 t78.2.at_)] (r := [sL t78.2.label, sL t78.2.value, sV (.int .i64 t78.2.at_)]) rfl rfl (aggV_cells _) (oL (oL (oI oN))) rfl rfl size41 (by kernel_rfl) (by kernel_rfl) (by kernel_rfl) ⟨⟨[], (.same (.same (.same (.same (.lose (.lose (.lose .refl))))))), l0⟩, ?_⟩)
  refine g1 5 ?_
  refine n2 rfl (OS.store 5 0 4 [sV (.int .i64 0), sL zL, sL zL, sV (.int .i64 0)] (r := [sV (.int .i64 0), sL zL, sL zL, sV (.int .i64 0)]) rfl rfl (aggV_cells _) (oI (oL (oL (oI oN)))) rfl rfl size45 (by kernel_rfl) (by kernel_rfl) (by kernel_rfl) ⟨⟨[], (.same (.same (.same (.same (.lose (.lose (.lose .refl))))))), l0⟩, ?_⟩)
  refine g1 6 ?_
  refine n2 rfl (OS.store 4 0 4 [sV (.int .i64 0), sL zL, sL zL, sV (.int .i64 0)] (r := [sV (.int .i64 0), sL zL, sL zL, sV (.int .i64 0)]) rfl rfl (aggV_cells _) (oI (oL (oL (oI oN)))) rfl rfl size45 (by kernel_rfl) (by kernel_rfl) (by kernel_rfl) ⟨⟨[], (.same (.same (.same (.same (.lose (.lose (.lose .refl))))))), l0⟩, ?_⟩)
  refine tx 7 rfl (.same (.same (.same (.same (.lose (.lose (.lose .refl))))))) hQ (fun _ _ _ => Y.assign rfl) ?_
  refine tx 8 rfl (.same (.same (.same (.same (.lose (.lose (.lose .refl))))))) hQ (fun _ _ _ => Y.assign rfl) ?_
  refine dn ?_
  refine GX.then hK106 ?_
  refine G.ret ?_
  obtain rfl := Option.some.inj h
  exact hret _ _ _ _ 7 (l2 e12 (l2 e17 (l2 e81 (l2 e88 e100)))) (.cons (.row (k := 6) rfl rfl row41 (by kernel_rfl)) (.cons (.row (k := 5) rfl rfl row45 (by kernel_rfl)) (.cons (.row (k := 4) rfl rfl row45 (by kernel_rfl)) (.cons (.tmp rfl) (.cons (.tmp rfl) .nil))))) rfl rfl
 replace h := ite_f c96 h
 refine sr (fun _ hK107 => ?_)
 refine vl (Y.fieldAddr 64 rfl fld41_2 rfl) ?_
 refine lv 2 2 one3 ?_
 refine vl (Y.gtI rfl rfl) ?_
 refine nt hK107 ?_
 refine G.cond _ rfl (fun c108 => ?_) (fun c108 => ?_)
 ·replace h := ite_t c108 h
  refine G.region ?_
  refine an ?_
  refine nt hK94 ?_
  refine G.seq (fun _ hK109 => ?_)
  refine sr (fun _ hK110 => ?_)
  refine mv ?_
  refine vl (Y.neI rfl rfl) ?_
  refine nt hK110 ?_
  refine G.cond _ rfl (fun c111 => ?_) (fun c111 => ?_)
  ·replace h := ite_t c111 h
   refine sr (fun _ hK112 => ?_)
   refine vl (Y.buildE _ [sL zL, sL zL, sV (.int .i64 0)] strt41 zero41 rfl .nil) ?_
   refine vl (Y.buildE _ [sV (.int .i64 0), sL zL, sL zL, sV (.int .i64 0)] strt45 zero45 rfl .nil) ?_
   refine vl (Y.buildE _ [sV (.int .i64 0), sL zL, sL zL, sV (.int .i64 0)] strt45 zero45 rfl .nil) ?_
   refine mv ?_
   refine sf 6 3 [sL zL, sL zL, sV (.int .i64 0)] (aggV_cells _) (oL (oL (oI oN))) size41 ?_
   refine sf 5 4 [sV (.int .i64 0), sL zL, sL zL, sV (.int .i64 0)] (aggV_cells _) (oI (oL (oL (oI oN)))) size45 ?_
   refine sf 4 4 [sV (.int .i64 0), sL zL, sL zL, sV (.int .i64 0)] (aggV_cells _) (oI (oL (oL (oI oN)))) size45 ?_
   refine an ?_
   refine an ?_
   refine nt hK112 ?_
   refine G.ret ?_
   obtain rfl := Option.some.inj h
   exact hret _ _ _ _ 7 (l2 e12 (l2 e17 (l2 e81 e88))) (.cons (.row (k := 6) rfl rfl row41 (by kernel_rfl)) (.cons (.row (k := 5) rfl rfl row45 (by kernel_rfl)) (.cons (.row (k := 4) rfl rfl row45 (by kernel_rfl)) (.cons (.tmp rfl) (.cons (.tmp rfl) .nil))))) rfl rfl
  replace h := ite_f c111 h
  refine sk hK109 ?_
  refine G.seq (fun _ hK113 => ?_)
  refine G.drawS 4 _ (Blk ad26 [sV (.int .i64 0), sL zL, sL zL, sV (.int .i64 0)] :: Blk ad24 [sV (.int .i64 0), sL zL, sL zL, sV (.int .i64 0)] :: Blk ad22 [sL t78.2.label, sL t78.2.value, sV (.int .i64 t78.2.at_)] :: Blk ad19 [sV (strV t78.1.s), sV (.int .i64 t78.1.at_), sV (.int .i64 t78.1.err)] :: (fun _ => True) :: (fun _ => True) :: (fun _ => True) :: F) mixed .refl (by kernel_rfl) ?_
  refine tx 0 rfl (.same (.same (.same (.same (.lose (.lose (.lose .refl))))))) hQ (fun S₀ X₀ e₀ => Y.loadB (X₀.length + 2)  0 3 [sL t78.2.label, sL t78.2.value, sV (.int .i64 t78.2.at_)] rfl (Lk rfl) rfl rfl row41 (by kernel_rfl)) ?_
  refine tx 1 rfl (.same (.same (.same (.same (.lose (.lose (.lose .refl))))))) hQ (fun S₀ X₀ e₀ => Y.loadB (X₀.length + 1)  0 4 [sV (.int .i64 0), sL zL, sL zL, sV (.int .i64 0)] rfl (Lk rfl) rfl rfl row45 (by kernel_rfl)) ?_
  refine tx 2 rfl (.same (.same (.same (.same (.lose (.lose (.lose .refl))))))) hQ (fun S₀ X₀ e₀ => Y.loadB (X₀.length + 0)  0 4 [sV (.int .i64 0), sL zL, sL zL, sV (.int .i64 0)] rfl (Lk rfl) rfl rfl row45 (by kernel_rfl)) ?_
  refine tx 3 rfl (.same (.same (.same (.same (.lose (.lose (.lose .refl))))))) hQ (fun _ _ _ => Y.move rfl) ?_
  refine g1 4 ?_
  refine n2 rfl (OS.store 6 0 3 [sL t78.2.label, sL t78.2.value, sV (.int .i64 t78.2.at_)] (r := [sL t78.2.label, sL t78.2.value, sV (.int .i64 t78.2.at_)]) rfl rfl (aggV_cells _) (oL (oL (oI oN))) rfl rfl size41 (by kernel_rfl) (by kernel_rfl) (by kernel_rfl) ⟨⟨[], (.same (.same (.same (.same (.lose (.lose (.lose .refl))))))), l0⟩, ?_⟩)
  refine g1 5 ?_
  refine n2 rfl (OS.store 5 0 4 [sV (.int .i64 0), sL zL, sL zL, sV (.int .i64 0)] (r := [sV (.int .i64 0), sL zL, sL zL, sV (.int .i64 0)]) rfl rfl (aggV_cells _) (oI (oL (oL (oI oN)))) rfl rfl size45 (by kernel_rfl) (by kernel_rfl) (by kernel_rfl) ⟨⟨[], (.same (.same (.same (.same (.lose (.lose (.lose .refl))))))), l0⟩, ?_⟩)
  refine g1 6 ?_
  refine n2 rfl (OS.store 4 0 4 [sV (.int .i64 0), sL zL, sL zL, sV (.int .i64 0)] (r := [sV (.int .i64 0), sL zL, sL zL, sV (.int .i64 0)]) rfl rfl (aggV_cells _) (oI (oL (oL (oI oN)))) rfl rfl size45 (by kernel_rfl) (by kernel_rfl) (by kernel_rfl) ⟨⟨[], (.same (.same (.same (.same (.lose (.lose (.lose .refl))))))), l0⟩, ?_⟩)
  refine tx 7 rfl (.same (.same (.same (.same (.lose (.lose (.lose .refl))))))) hQ (fun _ _ _ => Y.assign rfl) ?_
  refine tx 8 rfl (.same (.same (.same (.same (.lose (.lose (.lose .refl))))))) hQ (fun _ _ _ => Y.assign rfl) ?_
  refine dn ?_
  refine GX.then hK113 ?_
  refine G.ret ?_
  obtain rfl := Option.some.inj h
  exact hret _ _ _ _ 7 (l2 e12 (l2 e17 (l2 e81 e88))) (.cons (.row (k := 6) rfl rfl row41 (by kernel_rfl)) (.cons (.row (k := 5) rfl rfl row45 (by kernel_rfl)) (.cons (.row (k := 4) rfl rfl row45 (by kernel_rfl)) (.cons (.tmp rfl) (.cons (.tmp rfl) .nil))))) rfl rfl
 replace h := ite_f c108 h
 refine sk hK94 ?_
 refine G.seq (fun _ hK114 => ?_)
 refine sr (fun _ hK115 => ?_)
 refine mv ?_
 refine vl (Y.neI rfl rfl) ?_
 refine nt hK115 ?_
 refine G.cond _ rfl (fun c116 => ?_) (fun c116 => ?_)
 ·replace h := ite_t c116 h
  refine sr (fun _ hK117 => ?_)
  refine vl (Y.buildE _ [sL zL, sL zL, sV (.int .i64 0)] strt41 zero41 rfl .nil) ?_
  refine vl (Y.buildE _ [sV (.int .i64 0), sL zL, sL zL, sV (.int .i64 0)] strt45 zero45 rfl .nil) ?_
  refine vl (Y.buildE _ [sV (.int .i64 0), sL zL, sL zL, sV (.int .i64 0)] strt45 zero45 rfl .nil) ?_
  refine mv ?_
  refine sf 6 3 [sL zL, sL zL, sV (.int .i64 0)] (aggV_cells _) (oL (oL (oI oN))) size41 ?_
  refine sf 5 4 [sV (.int .i64 0), sL zL, sL zL, sV (.int .i64 0)] (aggV_cells _) (oI (oL (oL (oI oN)))) size45 ?_
  refine sf 4 4 [sV (.int .i64 0), sL zL, sL zL, sV (.int .i64 0)] (aggV_cells _) (oI (oL (oL (oI oN)))) size45 ?_
  refine an ?_
  refine an ?_
  refine nt hK117 ?_
  refine G.ret ?_
  obtain rfl := Option.some.inj h
  exact hret _ _ _ _ 7 (l2 e12 (l2 e17 (l2 e81 e88))) (.cons (.row (k := 6) rfl rfl row41 (by kernel_rfl)) (.cons (.row (k := 5) rfl rfl row45 (by kernel_rfl)) (.cons (.row (k := 4) rfl rfl row45 (by kernel_rfl)) (.cons (.tmp rfl) (.cons (.tmp rfl) .nil))))) rfl rfl
 replace h := ite_f c116 h
 refine sk hK114 ?_
 refine G.seq (fun _ hK118 => ?_)
 refine G.drawS 4 _ (Blk ad26 [sV (.int .i64 0), sL zL, sL zL, sV (.int .i64 0)] :: Blk ad24 [sV (.int .i64 0), sL zL, sL zL, sV (.int .i64 0)] :: Blk ad22 [sL t78.2.label, sL t78.2.value, sV (.int .i64 t78.2.at_)] :: Blk ad19 [sV (strV t78.1.s), sV (.int .i64 t78.1.at_), sV (.int .i64 t78.1.err)] :: (fun _ => True) :: (fun _ => True) :: (fun _ => True) :: F) mixed .refl (by kernel_rfl) ?_
 refine tx 0 rfl (.same (.same (.same (.same (.lose (.lose (.lose .refl))))))) hQ (fun S₀ X₀ e₀ => Y.loadB (X₀.length + 2)  0 3 [sL t78.2.label, sL t78.2.value, sV (.int .i64 t78.2.at_)] rfl (Lk rfl) rfl rfl row41 (by kernel_rfl)) ?_
 refine tx 1 rfl (.same (.same (.same (.same (.lose (.lose (.lose .refl))))))) hQ (fun S₀ X₀ e₀ => Y.loadB (X₀.length + 1)  0 4 [sV (.int .i64 0), sL zL, sL zL, sV (.int .i64 0)] rfl (Lk rfl) rfl rfl row45 (by kernel_rfl)) ?_
 refine tx 2 rfl (.same (.same (.same (.same (.lose (.lose (.lose .refl))))))) hQ (fun S₀ X₀ e₀ => Y.loadB (X₀.length + 0)  0 4 [sV (.int .i64 0), sL zL, sL zL, sV (.int .i64 0)] rfl (Lk rfl) rfl rfl row45 (by kernel_rfl)) ?_
 refine tx 3 rfl (.same (.same (.same (.same (.lose (.lose (.lose .refl))))))) hQ (fun _ _ _ => Y.move rfl) ?_
 refine g1 4 ?_
 refine n2 rfl (OS.store 6 0 3 [sL t78.2.label, sL t78.2.value, sV (.int .i64 t78.2.at_)] (r := [sL t78.2.label, sL t78.2.value, sV (.int .i64 t78.2.at_)]) rfl rfl (aggV_cells _) (oL (oL (oI oN))) rfl rfl size41 (by kernel_rfl) (by kernel_rfl) (by kernel_rfl) ⟨⟨[], (.same (.same (.same (.same (.lose (.lose (.lose .refl))))))), l0⟩, ?_⟩)
 refine g1 5 ?_
 refine n2 rfl (OS.store 5 0 4 [sV (.int .i64 0), sL zL, sL zL, sV (.int .i64 0)] (r := [sV (.int .i64 0), sL zL, sL zL, sV (.int .i64 0)]) rfl rfl (aggV_cells _) (oI (oL (oL (oI oN)))) rfl rfl size45 (by kernel_rfl) (by kernel_rfl) (by kernel_rfl) ⟨⟨[], (.same (.same (.same (.same (.lose (.lose (.lose .refl))))))), l0⟩, ?_⟩)
 refine g1 6 ?_
 refine n2 rfl (OS.store 4 0 4 [sV (.int .i64 0), sL zL, sL zL, sV (.int .i64 0)] (r := [sV (.int .i64 0), sL zL, sL zL, sV (.int .i64 0)]) rfl rfl (aggV_cells _) (oI (oL (oL (oI oN)))) rfl rfl size45 (by kernel_rfl) (by kernel_rfl) (by kernel_rfl) ⟨⟨[], (.same (.same (.same (.same (.lose (.lose (.lose .refl))))))), l0⟩, ?_⟩)
 refine tx 7 rfl (.same (.same (.same (.same (.lose (.lose (.lose .refl))))))) hQ (fun _ _ _ => Y.assign rfl) ?_
 refine tx 8 rfl (.same (.same (.same (.same (.lose (.lose (.lose .refl))))))) hQ (fun _ _ _ => Y.assign rfl) ?_
 refine dn ?_
 refine GX.then hK118 ?_
 refine G.ret ?_
 obtain rfl := Option.some.inj h
 exact hret _ _ _ _ 7 (l2 e12 (l2 e17 (l2 e81 e88))) (.cons (.row (k := 6) rfl rfl row41 (by kernel_rfl)) (.cons (.row (k := 5) rfl rfl row45 (by kernel_rfl)) (.cons (.row (k := 4) rfl rfl row45 (by kernel_rfl)) (.cons (.tmp rfl) (.cons (.tmp rfl) .nil))))) rfl rfl

/- chirograph/chirographref15.LeafText -/
def r15_LeafText  (a0 : Leaf) : Option Str :=
 ((r02_Flag false).bind fun t5 => ((r02_Label a0.label).bind fun t10 => ((req (List.length t5 + List.length t10 ≤ LIM)).bind fun _ => ((r02_Label a0.value).bind fun t16 => ((req (List.length (t5 ++ t10) + List.length t16 ≤ LIM)).bind fun _ => ((r02_Number a0.at_).bind fun t22 => ((req (List.length ((t5 ++ t10) ++ t16) + List.length t22 ≤ LIM)).bind fun _ => some (((t5 ++ t10) ++ t16) ++ t22))))))))

theorem r15_LeafText_ok {S : Hp} (a0 : Leaf) {r : Str} (h : r15_LeafText a0 = some r) : Fn Tryz.prog 109 [aggV [sL a0.label, sL a0.value, sV (.int .i64 a0.at_)]] S (fun v S' => v = strV r) := by
 unfold r15_LeafText at h
 refine fo [.tmp 2] 16 Tryz.func109 Tryz.ntmps109 (fun o F Q hQ hN hret => ?_)
 refine sr (fun _ hK1 => ?_)
 refine st (OS.boxA (by decide) rfl (fun ad2 => ?_))
 refine an ?_
 refine nt hK1 ?_
 refine G.seq (fun _ hK4 => ?_)
 obtain ⟨t5, wt5, h⟩ := bind_some' h
 obtain ⟨t10, wt10, h⟩ := bind_some' h
 obtain ⟨g15, h⟩ := req_bind h
 obtain ⟨t16, wt16, h⟩ := bind_some' h
 obtain ⟨g21, h⟩ := req_bind h
 obtain ⟨t22, wt22, h⟩ := bind_some' h
 obtain ⟨g27, h⟩ := req_bind h
 refine G.drawN 14 mixed (by kernel_rfl) ?_
 refine tn 1 rfl hQ (fun _ _ _ => Y.fieldAddr 0 rfl fld41_0 rfl) ?_
 refine tn 2 rfl hQ (fun S₀ X₀ e₀ => Y.loadB (X₀.length + 0)  0 1 [sL a0.label] rfl (Lk rfl) rfl rfl row23 (by kernel_rfl)) ?_
 refine tn 5 rfl hQ (fun _ _ _ => Y.fieldAddr 32 rfl fld41_1 rfl) ?_
 refine tn 6 rfl hQ (fun S₀ X₀ e₀ => Y.loadB (X₀.length + 0)  1 1 [sL a0.value] rfl (Lk rfl) rfl rfl row23 (by kernel_rfl)) ?_
 refine tn 9 rfl hQ (fun _ _ _ => Y.fieldAddr 64 rfl fld41_2 rfl) ?_
 refine tn 10 rfl hQ (fun S₀ X₀ e₀ => Y.loadV (X₀.length + 0)  2 _ rfl (Lk rfl) rfl rfl one3) ?_
 refine g1 0 ?_
 refine n1 rfl (cl fb110 (r02_Flag_ok false wt5) (fun v28 S29 e30 z31 => ⟨⟨[], .refl, e30⟩, ?_⟩))
 obtain rfl := z31
 refine g1 3 ?_
 refine n1 rfl (cl fb179 (r02_Label_ok a0.label wt10) (fun v32 S33 e34 z35 => ⟨⟨[], .refl, (l2 e30 e34)⟩, ?_⟩))
 obtain rfl := z35
 refine tn 4 rfl hQ (fun _ _ _ => Y.addStr (a := t5) (b := t10) rfl rfl g15) ?_
 refine g1 7 ?_
 refine n1 rfl (cl fb179 (r02_Label_ok a0.value wt16) (fun v36 S37 e38 z39 => ⟨⟨[], .refl, (l2 e30 (l2 e34 e38))⟩, ?_⟩))
 obtain rfl := z39
 refine tn 8 rfl hQ (fun _ _ _ => Y.addStr (a := (t5 ++ t10)) (b := t16) rfl rfl g21) ?_
 refine g1 11 ?_
 refine n1 rfl (cl fb107 (r02_Number_ok a0.at_ wt22) (fun v40 S41 e42 z43 => ⟨⟨[], .refl, (l2 e30 (l2 e34 (l2 e38 e42)))⟩, ?_⟩))
 obtain rfl := z43
 refine tn 12 rfl hQ (fun _ _ _ => Y.addStr (a := ((t5 ++ t10) ++ t16)) (b := t22) rfl rfl g27) ?_
 refine tn 13 rfl hQ (fun _ _ _ => Y.assign rfl) ?_
 refine dn ?_
 refine GX.then hK4 ?_
 refine G.ret ?_
 obtain rfl := Option.some.inj h
 exact hret _ _ _ _ 1 (l2 e30 (l2 e34 (l2 e38 e42))) (.cons (.tmp rfl) .nil) rfl rfl

/- chirograph/chirographref15.Write -/
def r15_Write  (a0 : Item) : Option Str :=
 ((r02_Number a0.len).bind fun t5 => ((r02_Label a0.bits).bind fun t10 => ((req (List.length t5 + List.length t10 ≤ LIM)).bind fun _ => ((r02_Label a0.sum).bind fun t16 => ((req (List.length (t5 ++ t10) + List.length t16 ≤ LIM)).bind fun _ => ((r02_Number a0.at_).bind fun t22 => ((req (List.length ((t5 ++ t10) ++ t16) + List.length t22 ≤ LIM)).bind fun _ => some (((t5 ++ t10) ++ t16) ++ t22))))))))

theorem r15_Write_ok {S : Hp} (a0 : Item) {r : Str} (h : r15_Write a0 = some r) : Fn Tryz.prog 111 [aggV [sV (.int .i64 a0.len), sL a0.bits, sL a0.sum, sV (.int .i64 a0.at_)]] S (fun v S' => v = strV r) := by
 unfold r15_Write at h
 refine fo [.tmp 2] 18 Tryz.func111 Tryz.ntmps111 (fun o F Q hQ hN hret => ?_)
 refine sr (fun _ hK1 => ?_)
 refine st (OS.boxA (by decide) rfl (fun ad2 => ?_))
 refine an ?_
 refine nt hK1 ?_
 refine G.seq (fun _ hK4 => ?_)
 obtain ⟨t5, wt5, h⟩ := bind_some' h
 obtain ⟨t10, wt10, h⟩ := bind_some' h
 obtain ⟨g15, h⟩ := req_bind h
 obtain ⟨t16, wt16, h⟩ := bind_some' h
 obtain ⟨g21, h⟩ := req_bind h
 obtain ⟨t22, wt22, h⟩ := bind_some' h
 obtain ⟨g27, h⟩ := req_bind h
 refine G.drawN 16 mixed (by kernel_rfl) ?_
 refine tn 0 rfl hQ (fun _ _ _ => Y.fieldAddr 0 rfl fld45_0 rfl) ?_
 refine tn 1 rfl hQ (fun S₀ X₀ e₀ => Y.loadV (X₀.length + 0)  0 _ rfl (Lk rfl) rfl rfl one3) ?_
 refine tn 3 rfl hQ (fun _ _ _ => Y.fieldAddr 1 rfl fld45_1 rfl) ?_
 refine tn 4 rfl hQ (fun S₀ X₀ e₀ => Y.loadB (X₀.length + 0)  1 1 [sL a0.bits] rfl (Lk rfl) rfl rfl row23 (by kernel_rfl)) ?_
 refine tn 7 rfl hQ (fun _ _ _ => Y.fieldAddr 33 rfl fld45_2 rfl) ?_
 refine tn 8 rfl hQ (fun S₀ X₀ e₀ => Y.loadB (X₀.length + 0)  2 1 [sL a0.sum] rfl (Lk rfl) rfl rfl row23 (by kernel_rfl)) ?_
 refine tn 11 rfl hQ (fun _ _ _ => Y.fieldAddr 65 rfl fld45_3 rfl) ?_
 refine tn 12 rfl hQ (fun S₀ X₀ e₀ => Y.loadV (X₀.length + 0)  3 _ rfl (Lk rfl) rfl rfl one3) ?_
 refine g1 2 ?_
 refine n1 rfl (cl fb107 (r02_Number_ok a0.len wt5) (fun v28 S29 e30 z31 => ⟨⟨[], .refl, e30⟩, ?_⟩))
 obtain rfl := z31
 refine g1 5 ?_
 refine n1 rfl (cl fb179 (r02_Label_ok a0.bits wt10) (fun v32 S33 e34 z35 => ⟨⟨[], .refl, (l2 e30 e34)⟩, ?_⟩))
 obtain rfl := z35
 refine tn 6 rfl hQ (fun _ _ _ => Y.addStr (a := t5) (b := t10) rfl rfl g15) ?_
 refine g1 9 ?_
 refine n1 rfl (cl fb179 (r02_Label_ok a0.sum wt16) (fun v36 S37 e38 z39 => ⟨⟨[], .refl, (l2 e30 (l2 e34 e38))⟩, ?_⟩))
 obtain rfl := z39
 refine tn 10 rfl hQ (fun _ _ _ => Y.addStr (a := (t5 ++ t10)) (b := t16) rfl rfl g21) ?_
 refine g1 13 ?_
 refine n1 rfl (cl fb107 (r02_Number_ok a0.at_ wt22) (fun v40 S41 e42 z43 => ⟨⟨[], .refl, (l2 e30 (l2 e34 (l2 e38 e42)))⟩, ?_⟩))
 obtain rfl := z43
 refine tn 14 rfl hQ (fun _ _ _ => Y.addStr (a := ((t5 ++ t10) ++ t16)) (b := t22) rfl rfl g27) ?_
 refine tn 15 rfl hQ (fun _ _ _ => Y.assign rfl) ?_
 refine dn ?_
 refine GX.then hK4 ?_
 refine G.ret ?_
 obtain rfl := Option.some.inj h
 exact hret _ _ _ _ 1 (l2 e30 (l2 e34 (l2 e38 e42))) (.cons (.tmp rfl) .nil) rfl rfl

end
end Go.Ch
end
section
/- Functions of the program: what each comes to, proved. -/
set_option linter.unusedVariables false
set_option linter.unusedSimpArgs false
set_option maxRecDepth 100000
set_option maxHeartbeats 4000000
namespace Go.Ch
open Go.RowKit (wrap64)
open Go.Proofs
noncomputable section
/- chirograph/chirographref18.Read -/
def r18_Read_s1 (t67 : Rd × Int) : (Int × Str × Int × Int × (List Item)) → Option ((Int × Str × Int × Int × (List Item)) ⊕ (Proof × Int ⊕ (Int × Str × Int × Int × (List Item))))
 | (x133, x134, x135, x136, x137) => ((if (decide (x133 < t67.2)) = true then some (x136 == (0 : Int)) else some false).bind fun b144 => (if b144 = true then ((r15_ReadItem (⟨x134, x135, x136⟩ : Rd)).bind fun t155 => (if (t155.1.err != (0 : Int)) = true then some (.inr (.inl ((⟨0, (⟨zL, zL, 0⟩ : Leaf), (⟨0, zL, zL, 0⟩ : Item), (⟨0, zL, zL, 0⟩ : Item), []⟩ : Proof), t155.1.err))) else ((r15_Good t155.2).bind fun t166 => (if (!t166) = true then some (.inr (.inl ((⟨0, (⟨zL, zL, 0⟩ : Leaf), (⟨0, zL, zL, 0⟩ : Item), (⟨0, zL, zL, 0⟩ : Item), []⟩ : Proof), (1 : Int)))) else ((req (List.length x137 + List.length ([t155.2] : List Item) ≤ LIM)).bind fun _ => some (.inl ((wrap64 (x133 + (1 : Int))), t155.1.s, t155.1.at_, t155.1.err, (x137 ++ ([t155.2] : List Item))))))))) else some (.inr (.inr (x133, x134, x135, x136, x137)))))

def r18_Read_s2 (t196 : Rd × Int) : (Int × Str × Int × Int × (List Item)) → Option ((Int × Str × Int × Int × (List Item)) ⊕ (Proof × Int ⊕ (Int × Str × Int × Int × (List Item))))
 | (x262, x263, x264, x265, x266) => ((if (decide (x262 < t196.2)) = true then some (x265 == (0 : Int)) else some false).bind fun b273 => (if b273 = true then ((r15_ReadItem (⟨x263, x264, x265⟩ : Rd)).bind fun t284 => (if (t284.1.err != (0 : Int)) = true then some (.inr (.inl ((⟨0, (⟨zL, zL, 0⟩ : Leaf), (⟨0, zL, zL, 0⟩ : Item), (⟨0, zL, zL, 0⟩ : Item), []⟩ : Proof), t284.1.err))) else ((r15_Good t284.2).bind fun t295 => (if (!t295) = true then some (.inr (.inl ((⟨0, (⟨zL, zL, 0⟩ : Leaf), (⟨0, zL, zL, 0⟩ : Item), (⟨0, zL, zL, 0⟩ : Item), []⟩ : Proof), (1 : Int)))) else ((req (List.length x266 + List.length ([t284.2] : List Item) ≤ LIM)).bind fun _ => some (.inl ((wrap64 (x262 + (1 : Int))), t284.1.s, t284.1.at_, t284.1.err, (x266 ++ ([t284.2] : List Item))))))))) else some (.inr (.inr (x262, x263, x264, x265, x266)))))

def r18_Read  (a0 : Str) : Option (Proof × Int) :=
 ((r02_Open a0).bind fun t8 => ((r02_ReadNumber t8).bind fun t13 => ((if (t13.1.err == (0 : Int)) = true then some (decide ((2 : Int) < t13.2)) else some false).bind fun b22 => (if b22 = true then some ((⟨0, (⟨zL, zL, 0⟩ : Leaf), (⟨0, zL, zL, 0⟩ : Item), (⟨0, zL, zL, 0⟩ : Item), []⟩ : Proof), (2 : Int)) else (if (decide ((0 : Int) < t13.2)) = true then ((r02_ReadText t13.1).bind fun t35 => (if (t35.1.err != (0 : Int)) = true then some ((⟨0, (⟨zL, zL, 0⟩ : Leaf), (⟨0, zL, zL, 0⟩ : Item), (⟨0, zL, zL, 0⟩ : Item), []⟩ : Proof), t35.1.err) else ((r15_Read t35.2).bind fun t45 => (if (t45.2.2.2.2 != (0 : Int)) = true then some ((⟨0, (⟨zL, zL, 0⟩ : Leaf), (⟨0, zL, zL, 0⟩ : Item), (⟨0, zL, zL, 0⟩ : Item), []⟩ : Proof), t45.2.2.2.2) else (if (!(t45.2.2.2.1 == (t13.2 == (2 : Int)))) = true then some ((⟨0, (⟨zL, zL, 0⟩ : Leaf), (⟨0, zL, zL, 0⟩ : Item), (⟨0, zL, zL, 0⟩ : Item), []⟩ : Proof), (3 : Int)) else ((r02_ReadNumber t35.1).bind fun t67 => ((if (t67.1.err == (0 : Int)) = true then some (decide ((256 : Int) < t67.2)) else some false).bind fun b74 => (if b74 = true then some ((⟨0, (⟨zL, zL, 0⟩ : Leaf), (⟨0, zL, zL, 0⟩ : Item), (⟨0, zL, zL, 0⟩ : Item), []⟩ : Proof), (2 : Int)) else ((iter (r18_Read_s1 t67) ((0 : Int), t67.1.s, t67.1.at_, t67.1.err, ([] : List Item))).bind fun b140 => (match b140 with | .inl r₀ => some r₀ | .inr (x133, x134, x135, x136, x137) => ((r02_Done (⟨x134, x135, x136⟩ : Rd)).bind fun t182 => (if (t182 != (0 : Int)) = true then some ((⟨0, (⟨zL, zL, 0⟩ : Leaf), (⟨0, zL, zL, 0⟩ : Item), (⟨0, zL, zL, 0⟩ : Item), []⟩ : Proof), t182) else some ((⟨t13.2, t45.1, t45.2.1, t45.2.2.1, x137⟩ : Proof), (0 : Int)))))))))))))) else ((r02_ReadNumber t13.1).bind fun t196 => ((if (t196.1.err == (0 : Int)) = true then some (decide ((256 : Int) < t196.2)) else some false).bind fun b203 => (if b203 = true then some ((⟨0, (⟨zL, zL, 0⟩ : Leaf), (⟨0, zL, zL, 0⟩ : Item), (⟨0, zL, zL, 0⟩ : Item), []⟩ : Proof), (2 : Int)) else ((iter (r18_Read_s2 t196) ((0 : Int), t196.1.s, t196.1.at_, t196.1.err, ([] : List Item))).bind fun b269 => (match b269 with | .inl r₀ => some r₀ | .inr (x262, x263, x264, x265, x266) => ((r02_Done (⟨x263, x264, x265⟩ : Rd)).bind fun t311 => (if (t311 != (0 : Int)) = true then some ((⟨0, (⟨zL, zL, 0⟩ : Leaf), (⟨0, zL, zL, 0⟩ : Item), (⟨0, zL, zL, 0⟩ : Item), []⟩ : Proof), t311) else some ((⟨t13.2, (⟨zL, zL, 0⟩ : Leaf), (⟨0, zL, zL, 0⟩ : Item), (⟨0, zL, zL, 0⟩ : Item), x266⟩ : Proof), (0 : Int))))))))))))))

theorem r18_Read_ok {S : Hp} (a0 : Str) {r : Proof × Int} (h : r18_Read a0 = some r) : Fn Tryz.prog 34 [strV a0] S (fun v S' => ∃ (v324 : Value), v = .tuple #[aggV [sV (.int .i64 r.1.end_), sL r.1.leaf.label, sL r.1.leaf.value, sV (.int .i64 r.1.leaf.at_), sV (.int .i64 r.1.a.len), sL r.1.a.bits, sL r.1.a.sum, sV (.int .i64 r.1.a.at_), sV (.int .i64 r.1.b.len), sL r.1.b.bits, sL r.1.b.sum, sV (.int .i64 r.1.b.at_), sV v324], .int .i64 r.2] ∧ Sls S' v324 r.1.path) := by
 unfold r18_Read at h
 refine fo [.cell 2 48, .tmp 3] 122 Tryz.func34 Tryz.ntmps34 (fun o F Q hQ hN hret => ?_)
 refine sr (fun _ hK1 => ?_)
 refine st (OS.alloc _ (by decide) zero48 (fun ad2 => ?_))
 refine an ?_
 refine nt hK1 ?_
 refine sr (fun _ hK4 => ?_)
 refine vl (Y.buildE _ [sV (.int .i64 0), sL zL, sL zL, sV (.int .i64 0), sV (.int .i64 0), sL zL, sL zL, sV (.int .i64 0), sV (.int .i64 0), sL zL, sL zL, sV (.int .i64 0), sV (.slice none 0 0)] strt48 zero48 rfl .nil) ?_
 refine st (OS.alloc _ (by decide) zero48 (fun ad5 => ?_))
 refine sf 0 13 [sV (.int .i64 0), sL zL, sL zL, sV (.int .i64 0), sV (.int .i64 0), sL zL, sL zL, sV (.int .i64 0), sV (.int .i64 0), sL zL, sL zL, sV (.int .i64 0), sV (.slice none 0 0)] (aggV_cells _) (oI (oL (oL (oI (oI (oL (oL (oI (oI (oL (oL (oI (oI oN))))))))))))) size48 ?_
 refine nt hK4 ?_
 refine sr (fun _ hK7 => ?_)
 refine mv ?_
 obtain ⟨t8, wt8, h⟩ := bind_some' h
 refine st (cl fb96 (r02_Open_ok a0 wt8) (fun v9 S10 e11 z12 => ?_))
 obtain rfl := z12
 obtain ⟨t13, wt13, h⟩ := bind_some' h
 refine st (cl fb95 (r02_ReadNumber_ok t8 wt13) (fun v14 S15 e16 z17 => ?_))
 obtain rfl := z17
 refine mv ?_
 refine vl (Y.extract _ rfl rfl) ?_
 refine vl (Y.extract _ rfl rfl) ?_
 refine st (OS.alloc _ (by decide) zero155 (fun ad18 => ?_))
 refine sf 0 3 [sV (strV t13.1.s), sV (.int .i64 t13.1.at_), sV (.int .i64 t13.1.err)] (aggV_cells _) (oI (oI (oI oN))) size155 ?_
 refine an ?_
 refine nt hK7 ?_
 refine G.seq (fun _ hK20 => ?_)
 refine sr (fun _ hK21 => ?_)
 refine vl (Y.fieldAddr 2 rfl fld155_2 rfl) ?_
 refine lv 0 2 one3 ?_
 refine vl (Y.eqI rfl rfl) ?_
 refine mv ?_
 obtain ⟨b22, wb22, h⟩ := bind_some' h
 refine GO.joinB 3 30 (b22 = ·) (fun K24 hK24 => ?_) ?_
 ·replace h := wb22
  rcases Bool.eq_false_or_eq_true (t13.1.err == (0 : Int)) with c23 | c23
  ·replace h := ite_t c23 h
   refine gv 27 c23 (Y.move rfl) ?_
   refine gv 27 c23 (Y.gtI rfl rfl) ?_
   refine vl (Y.pickT _ c23 rfl rfl) ?_
   refine GO.nil ?_
   refine p2 (p2 ?_)
   exact hK24 _ _ l0 (Option.some.inj h).symm
  replace h := ite_f c23 h
  refine gf 27 c23 ?_
  refine gf 27 c23 ?_
  refine vl (Y.pickF _ c23 rfl rfl) ?_
  refine GO.nil ?_
  refine p2 (p2 ?_)
  exact hK24 _ _ l0 (Option.some.inj h).symm
 rintro _ S25 e26 rfl
 refine nt hK21 ?_
 refine G.cond _ rfl (fun c27 => ?_) (fun c27 => ?_)
 ·replace h := ite_t c27 h
  refine sr (fun _ hK28 => ?_)
  refine vl (Y.buildE _ [sV (.int .i64 0), sL zL, sL zL, sV (.int .i64 0), sV (.int .i64 0), sL zL, sL zL, sV (.int .i64 0), sV (.int .i64 0), sL zL, sL zL, sV (.int .i64 0), sV (.slice none 0 0)] strt48 zero48 rfl .nil) ?_
  refine sf 2 13 [sV (.int .i64 0), sL zL, sL zL, sV (.int .i64 0), sV (.int .i64 0), sL zL, sL zL, sV (.int .i64 0), sV (.int .i64 0), sL zL, sL zL, sV (.int .i64 0), sV (.slice none 0 0)] (aggV_cells _) (oI (oL (oL (oI (oI (oL (oL (oI (oI (oL (oL (oI (oI oN))))))))))))) size48 ?_
  refine an ?_
  refine nt hK28 ?_
  refine G.ret ?_
  obtain rfl := Option.some.inj h
  exact hret _ _ _ _ 3 (l2 e11 (l2 e16 e26)) (.cons (.row (k := 2) rfl rfl row48 (by kernel_rfl)) (.cons (.tmp rfl) .nil)) ⟨_, rfl, (Sls.nil (α := Item) _)⟩ rfl
 replace h := ite_f c27 h
 refine sk hK20 ?_
 refine sr (fun _ hK29 => ?_)
 refine mv ?_
 refine vl (Y.fieldAddr 0 rfl fld48_0 rfl) ?_
 refine so 1 0 1 [sV (.int .i64 t13.2), sL zL, sL zL, sV (.int .i64 0), sV (.int .i64 0), sL zL, sL zL, sV (.int .i64 0), sV (.int .i64 0), sL zL, sL zL, sV (.int .i64 0), sV (.slice none 0 0)] (r := [sV (.int .i64 t13.2)]) rfl (oI oN) size3 ?_
 refine nt hK29 ?_
 refine G.seq (fun _ hK30 => ?_)
 refine sr (fun _ hK31 => ?_)
 refine mv ?_
 refine vl (Y.gtI rfl rfl) ?_
 refine nt hK31 ?_
 refine G.cond _ rfl (fun c32 => ?_) (fun c32 => ?_)
 ·replace h := ite_t c32 h
  refine sr (fun _ hK33 => ?_)
  refine an ?_
  refine nt hK33 ?_
  refine sr (fun _ hK34 => ?_)
  refine lb 0 0 3 [sV (strV t13.1.s), sV (.int .i64 t13.1.at_), sV (.int .i64 t13.1.err)] row155 ?_
  obtain ⟨t35, wt35, h⟩ := bind_some' h
  refine st (cl fb97 (r02_ReadText_ok t13.1 wt35) (fun v36 S37 e38 z39 => ?_))
  obtain rfl := z39
  refine mv ?_
  refine vl (Y.extract _ rfl rfl) ?_
  refine vl (Y.extract _ rfl rfl) ?_
  refine sf 0 3 [sV (strV t35.1.s), sV (.int .i64 t35.1.at_), sV (.int .i64 t35.1.err)] (aggV_cells _) (oI (oI (oI oN))) size155 ?_
  refine an ?_
  refine nt hK34 ?_
  refine G.seq (fun _ hK40 => ?_)
  refine sr (fun _ hK41 => ?_)
  refine vl (Y.fieldAddr 2 rfl fld155_2 rfl) ?_
  refine lv 0 2 one3 ?_
  refine vl (Y.neI rfl rfl) ?_
  refine nt hK41 ?_
  refine G.cond _ rfl (fun c42 => ?_) (fun c42 => ?_)
  ·replace h := ite_t c42 h
   refine G.seq (fun _ hK43 => ?_)
   refine G.drawS 3 _ (Blk ad18 [sV (strV t35.1.s), sV (.int .i64 t35.1.at_), sV (.int .i64 t35.1.err)] :: Blk ad5 [sV (.int .i64 t13.2), sL zL, sL zL, sV (.int .i64 0), sV (.int .i64 0), sL zL, sL zL, sV (.int .i64 0), sV (.int .i64 0), sL zL, sL zL, sV (.int .i64 0), sV (.slice none 0 0)] :: (fun _ => True) :: F) mixed .refl (by kernel_rfl) ?_
   refine tx 0 rfl (.same (.same (.lose .refl))) hQ (fun _ _ _ => Y.buildE _ [sV (.int .i64 0), sL zL, sL zL, sV (.int .i64 0), sV (.int .i64 0), sL zL, sL zL, sV (.int .i64 0), sV (.int .i64 0), sL zL, sL zL, sV (.int .i64 0), sV (.slice none 0 0)] strt48 zero48 rfl .nil) ?_
   refine tx 1 rfl (.same (.same (.lose .refl))) hQ (fun _ _ _ => Y.fieldAddr 2 rfl fld155_2 rfl) ?_
   refine tx 2 rfl (.same (.same (.lose .refl))) hQ (fun S₀ X₀ e₀ => Y.loadV (X₀.length + 0)  2 _ rfl (Lk rfl) rfl rfl one3) ?_
   refine g1 3 ?_
   refine n2 rfl (OS.store 2 0 13 [sV (.int .i64 0), sL zL, sL zL, sV (.int .i64 0), sV (.int .i64 0), sL zL, sL zL, sV (.int .i64 0), sV (.int .i64 0), sL zL, sL zL, sV (.int .i64 0), sV (.slice none 0 0)] (r := [sV (.int .i64 0), sL zL, sL zL, sV (.int .i64 0), sV (.int .i64 0), sL zL, sL zL, sV (.int .i64 0), sV (.int .i64 0), sL zL, sL zL, sV (.int .i64 0), sV (.slice none 0 0)]) rfl rfl (aggV_cells _) (oI (oL (oL (oI (oI (oL (oL (oI (oI (oL (oL (oI (oI oN))))))))))))) rfl rfl size48 (by kernel_rfl) (by kernel_rfl) (by kernel_rfl) ⟨⟨[], (.same (.same (.lose .refl))), l0⟩, ?_⟩)
   refine tx 4 rfl (.same (.same (.lose .refl))) hQ (fun _ _ _ => Y.assign rfl) ?_
   refine dn ?_
   refine GX.then hK43 ?_
   refine G.ret ?_
   obtain rfl := Option.some.inj h
   exact hret _ _ _ _ 3 (l2 e11 (l2 e16 (l2 e26 e38))) (.cons (.row (k := 2) rfl rfl row48 (by kernel_rfl)) (.cons (.tmp rfl) .nil)) ⟨_, rfl, (Sls.nil (α := Item) _)⟩ rfl
  replace h := ite_f c42 h
  refine sk hK40 ?_
  refine sr (fun _ hK44 => ?_)
  refine mv ?_
  obtain ⟨t45, wt45, h⟩ := bind_some' h
  refine st (cl fb98 (r15_Read_ok t35.2 wt45) (fun v46 S47 e48 z49 => ?_))
  obtain rfl := z49
  refine mv ?_
  refine vl (Y.extract _ rfl rfl) ?_
  refine vl (Y.extract _ rfl rfl) ?_
  refine vl (Y.extract _ rfl rfl) ?_
  refine vl (Y.extract _ rfl rfl) ?_
  refine vl (Y.extract _ rfl rfl) ?_
  refine st (OS.alloc _ (by decide) zero41 (fun ad50 => ?_))
  refine st (OS.alloc _ (by decide) zero45 (fun ad52 => ?_))
  refine st (OS.alloc _ (by decide) zero45 (fun ad54 => ?_))
  refine sf 2 3 [sL t45.1.label, sL t45.1.value, sV (.int .i64 t45.1.at_)] (aggV_cells _) (oL (oL (oI oN))) size41 ?_
  refine sf 1 4 [sV (.int .i64 t45.2.1.len), sL t45.2.1.bits, sL t45.2.1.sum, sV (.int .i64 t45.2.1.at_)] (aggV_cells _) (oI (oL (oL (oI oN)))) size45 ?_
  refine sf 0 4 [sV (.int .i64 t45.2.2.1.len), sL t45.2.2.1.bits, sL t45.2.2.1.sum, sV (.int .i64 t45.2.2.1.at_)] (aggV_cells _) (oI (oL (oL (oI oN)))) size45 ?_
  refine an ?_
  refine an ?_
  refine nt hK44 ?_
  refine G.seq (fun _ hK56 => ?_)
  refine sr (fun _ hK57 => ?_)
  refine mv ?_
  refine vl (Y.neI rfl rfl) ?_
  refine nt hK57 ?_
  refine G.cond _ rfl (fun c58 => ?_) (fun c58 => ?_)
  ·replace h := ite_t c58 h
   refine sr (fun _ hK59 => ?_)
   refine vl (Y.buildE _ [sV (.int .i64 0), sL zL, sL zL, sV (.int .i64 0), sV (.int .i64 0), sL zL, sL zL, sV (.int .i64 0), sV (.int .i64 0), sL zL, sL zL, sV (.int .i64 0), sV (.slice none 0 0)] strt48 zero48 rfl .nil) ?_
   refine mv ?_
   refine sf 5 13 [sV (.int .i64 0), sL zL, sL zL, sV (.int .i64 0), sV (.int .i64 0), sL zL, sL zL, sV (.int .i64 0), sV (.int .i64 0), sL zL, sL zL, sV (.int .i64 0), sV (.slice none 0 0)] (aggV_cells _) (oI (oL (oL (oI (oI (oL (oL (oI (oI (oL (oL (oI (oI oN))))))))))))) size48 ?_
   refine an ?_
   refine nt hK59 ?_
   refine G.ret ?_
   obtain rfl := Option.some.inj h
   exact hret _ _ _ _ 6 (l2 e11 (l2 e16 (l2 e26 (l2 e38 e48)))) (.cons (.row (k := 5) rfl rfl row48 (by kernel_rfl)) (.cons (.tmp rfl) .nil)) ⟨_, rfl, (Sls.nil (α := Item) _)⟩ rfl
  replace h := ite_f c58 h
  refine sk hK56 ?_
  refine G.seq (fun _ hK60 => ?_)
  refine sr (fun _ hK61 => ?_)
  refine mv ?_
  refine mv ?_
  refine vl (Y.eqI rfl rfl) ?_
  refine vl (Y.neB rfl rfl Tryz.underlying4) ?_
  refine nt hK61 ?_
  refine G.cond _ rfl (fun c62 => ?_) (fun c62 => ?_)
  ·replace h := ite_t c62 h
   refine sr (fun _ hK63 => ?_)
   refine vl (Y.buildE _ [sV (.int .i64 0), sL zL, sL zL, sV (.int .i64 0), sV (.int .i64 0), sL zL, sL zL, sV (.int .i64 0), sV (.int .i64 0), sL zL, sL zL, sV (.int .i64 0), sV (.slice none 0 0)] strt48 zero48 rfl .nil) ?_
   refine sf 5 13 [sV (.int .i64 0), sL zL, sL zL, sV (.int .i64 0), sV (.int .i64 0), sL zL, sL zL, sV (.int .i64 0), sV (.int .i64 0), sL zL, sL zL, sV (.int .i64 0), sV (.slice none 0 0)] (aggV_cells _) (oI (oL (oL (oI (oI (oL (oL (oI (oI (oL (oL (oI (oI oN))))))))))))) size48 ?_
   refine an ?_
   refine nt hK63 ?_
   refine G.ret ?_
   obtain rfl := Option.some.inj h
   exact hret _ _ _ _ 6 (l2 e11 (l2 e16 (l2 e26 (l2 e38 e48)))) (.cons (.row (k := 5) rfl rfl row48 (by kernel_rfl)) (.cons (.tmp rfl) .nil)) ⟨_, rfl, (Sls.nil (α := Item) _)⟩ rfl
  replace h := ite_f c62 h
  refine sk hK60 ?_
  refine sr (fun _ hK64 => ?_)
  refine lb 2 0 3 [sL t45.1.label, sL t45.1.value, sV (.int .i64 t45.1.at_)] row41 ?_
  refine vl (Y.fieldAddr 1 rfl fld48_1 rfl) ?_
  refine so 4 1 3 [sV (.int .i64 t13.2), sL t45.1.label, sL t45.1.value, sV (.int .i64 t45.1.at_), sV (.int .i64 0), sL zL, sL zL, sV (.int .i64 0), sV (.int .i64 0), sL zL, sL zL, sV (.int .i64 0), sV (.slice none 0 0)] (r := [sL t45.1.label, sL t45.1.value, sV (.int .i64 t45.1.at_)]) (aggV_cells _) (oL (oL (oI oN))) size41 ?_
  refine nt hK64 ?_
  refine sr (fun _ hK65 => ?_)
  refine lb 1 0 4 [sV (.int .i64 t45.2.1.len), sL t45.2.1.bits, sL t45.2.1.sum, sV (.int .i64 t45.2.1.at_)] row45 ?_
  refine vl (Y.fieldAddr 66 rfl fld48_2 rfl) ?_
  refine so 4 4 4 [sV (.int .i64 t13.2), sL t45.1.label, sL t45.1.value, sV (.int .i64 t45.1.at_), sV (.int .i64 t45.2.1.len), sL t45.2.1.bits, sL t45.2.1.sum, sV (.int .i64 t45.2.1.at_), sV (.int .i64 0), sL zL, sL zL, sV (.int .i64 0), sV (.slice none 0 0)] (r := [sV (.int .i64 t45.2.1.len), sL t45.2.1.bits, sL t45.2.1.sum, sV (.int .i64 t45.2.1.at_)]) (aggV_cells _) (oI (oL (oL (oI oN)))) size45 ?_
  refine nt hK65 ?_
  refine G.region ?_
  refine lb 0 0 4 [sV (.int .i64 t45.2.2.1.len), sL t45.2.2.1.bits, sL t45.2.2.1.sum, sV (.int .i64 t45.2.2.1.at_)] row45 ?_
  refine vl (Y.fieldAddr 132 rfl fld48_3 rfl) ?_
  refine so 4 8 4 [sV (.int .i64 t13.2), sL t45.1.label, sL t45.1.value, sV (.int .i64 t45.1.at_), sV (.int .i64 t45.2.1.len), sL t45.2.1.bits, sL t45.2.1.sum, sV (.int .i64 t45.2.1.at_), sV (.int .i64 t45.2.2.1.len), sL t45.2.2.1.bits, sL t45.2.2.1.sum, sV (.int .i64 t45.2.2.1.at_), sV (.slice none 0 0)] (r := [sV (.int .i64 t45.2.2.1.len), sL t45.2.2.1.bits, sL t45.2.2.1.sum, sV (.int .i64 t45.2.2.1.at_)]) (aggV_cells _) (oI (oL (oL (oI oN)))) size45 ?_
  refine nt hK30 ?_
  refine sr (fun _ hK66 => ?_)
  refine lb 3 0 3 [sV (strV t35.1.s), sV (.int .i64 t35.1.at_), sV (.int .i64 t35.1.err)] row155 ?_
  obtain ⟨t67, wt67, h⟩ := bind_some' h
  refine st (cl fb95 (r02_ReadNumber_ok t35.1 wt67) (fun v68 S69 e70 z71 => ?_))
  obtain rfl := z71
  refine mv ?_
  refine vl (Y.extract _ rfl rfl) ?_
  refine vl (Y.extract _ rfl rfl) ?_
  refine sf 3 3 [sV (strV t67.1.s), sV (.int .i64 t67.1.at_), sV (.int .i64 t67.1.err)] (aggV_cells _) (oI (oI (oI oN))) size155 ?_
  refine an ?_
  refine nt hK66 ?_
  refine G.seq (fun _ hK72 => ?_)
  refine sr (fun _ hK73 => ?_)
  refine vl (Y.fieldAddr 2 rfl fld155_2 rfl) ?_
  refine lv 3 2 one3 ?_
  refine vl (Y.eqI rfl rfl) ?_
  refine mv ?_
  obtain ⟨b74, wb74, h⟩ := bind_some' h
  refine GO.joinB 3 81 (b74 = ·) (fun K76 hK76 => ?_) ?_
  ·replace h := wb74
   rcases Bool.eq_false_or_eq_true (t67.1.err == (0 : Int)) with c75 | c75
   ·replace h := ite_t c75 h
    refine gv 78 c75 (Y.move rfl) ?_
    refine gv 78 c75 (Y.gtI rfl rfl) ?_
    refine vl (Y.pickT _ c75 rfl rfl) ?_
    refine GO.nil ?_
    refine p2 (p2 ?_)
    exact hK76 _ _ l0 (Option.some.inj h).symm
   replace h := ite_f c75 h
   refine gf 78 c75 ?_
   refine gf 78 c75 ?_
   refine vl (Y.pickF _ c75 rfl rfl) ?_
   refine GO.nil ?_
   refine p2 (p2 ?_)
   exact hK76 _ _ l0 (Option.some.inj h).symm
  rintro _ S77 e78 rfl
  refine nt hK73 ?_
  refine G.cond _ rfl (fun c79 => ?_) (fun c79 => ?_)
  ·replace h := ite_t c79 h
   refine sr (fun _ hK80 => ?_)
   refine vl (Y.buildE _ [sV (.int .i64 0), sL zL, sL zL, sV (.int .i64 0), sV (.int .i64 0), sL zL, sL zL, sV (.int .i64 0), sV (.int .i64 0), sL zL, sL zL, sV (.int .i64 0), sV (.slice none 0 0)] strt48 zero48 rfl .nil) ?_
   refine sf 5 13 [sV (.int .i64 0), sL zL, sL zL, sV (.int .i64 0), sV (.int .i64 0), sL zL, sL zL, sV (.int .i64 0), sV (.int .i64 0), sL zL, sL zL, sV (.int .i64 0), sV (.slice none 0 0)] (aggV_cells _) (oI (oL (oL (oI (oI (oL (oL (oI (oI (oL (oL (oI (oI oN))))))))))))) size48 ?_
   refine an ?_
   refine nt hK80 ?_
   refine G.ret ?_
   obtain rfl := Option.some.inj h
   exact hret _ _ _ _ 6 (l2 e11 (l2 e16 (l2 e26 (l2 e38 (l2 e48 (l2 e70 e78)))))) (.cons (.row (k := 5) rfl rfl row48 (by kernel_rfl)) (.cons (.tmp rfl) .nil)) ⟨_, rfl, (Sls.nil (α := Item) _)⟩ rfl
  replace h := ite_f c79 h
  refine sk hK72 ?_
  refine G.seq (fun _ hK81 => ?_)
  refine sr (fun _ hK82 => ?_)
  refine an ?_
  refine nt hK82 ?_
  refine G.block ?_
  refine G.nilRow (α := Item) ?_
  obtain ⟨b140, wb140, ho141⟩ := bind_some' h
  refine G.keep [14, 13, 5, 4, 2] rfl ?_
  refine G.loopK (r18_Read_s1 t67) (fun s₀ E' S' L' => match s₀ with | (x133, x134, x135, x136, x137) => S77.le S' ∧ ∃ (v138 : Value), E' = [(14, .int .i64 x133), (13, .int .i64 t67.2), (5, .pointer (some ⟨ad18, 0, none⟩)), (4, .pointer (some ⟨ad5, 0, none⟩)), (2, .pointer (some ⟨ad2, 0, none⟩))] ∧ Rw v138 x137 :: Blk ad54 [sV (.int .i64 t45.2.2.1.len), sL t45.2.2.1.bits, sL t45.2.2.1.sum, sV (.int .i64 t45.2.2.1.at_)] :: Blk ad52 [sV (.int .i64 t45.2.1.len), sL t45.2.1.bits, sL t45.2.1.sum, sV (.int .i64 t45.2.1.at_)] :: Blk ad50 [sL t45.1.label, sL t45.1.value, sV (.int .i64 t45.1.at_)] :: Blk ad18 [sV (strV x134), sV (.int .i64 x135), sV (.int .i64 x136)] :: Blk ad5 [sV (.int .i64 t13.2), sL t45.1.label, sL t45.1.value, sV (.int .i64 t45.1.at_), sV (.int .i64 t45.2.1.len), sL t45.2.1.bits, sL t45.2.1.sum, sV (.int .i64 t45.2.1.at_), sV (.int .i64 t45.2.2.1.len), sL t45.2.2.1.bits, sL t45.2.2.1.sum, sV (.int .i64 t45.2.2.1.at_), sV v138] :: Blk ad2 [sV (.int .i64 0), sL zL, sL zL, sV (.int .i64 0), sV (.int .i64 0), sL zL, sL zL, sV (.int .i64 0), sV (.int .i64 0), sL zL, sL zL, sV (.int .i64 0), sV (.slice none 0 0)] :: F = L') b140 0 (fun E₀ S₀ L₀ => ∃ (x133 : Int) (x134 : Str) (x135 : Int) (x136 : Int) (x137 : (List Item)) (v138 : Value), S77.le S₀ ∧ b140 = .inr (x133, x134, x135, x136, x137) ∧ E₀ = [(5, .pointer (some ⟨ad18, 0, none⟩)), (4, .pointer (some ⟨ad5, 0, none⟩)), (2, .pointer (some ⟨ad2, 0, none⟩))] ∧ Rw v138 x137 :: Blk ad54 [sV (.int .i64 t45.2.2.1.len), sL t45.2.2.1.bits, sL t45.2.2.1.sum, sV (.int .i64 t45.2.2.1.at_)] :: Blk ad52 [sV (.int .i64 t45.2.1.len), sL t45.2.1.bits, sL t45.2.1.sum, sV (.int .i64 t45.2.1.at_)] :: Blk ad50 [sL t45.1.label, sL t45.1.value, sV (.int .i64 t45.1.at_)] :: Blk ad18 [sV (strV x134), sV (.int .i64 x135), sV (.int .i64 x136)] :: Blk ad5 [sV (.int .i64 t13.2), sL t45.1.label, sL t45.1.value, sV (.int .i64 t45.1.at_), sV (.int .i64 t45.2.1.len), sL t45.2.1.bits, sL t45.2.1.sum, sV (.int .i64 t45.2.1.at_), sV (.int .i64 t45.2.2.1.len), sL t45.2.2.1.bits, sL t45.2.2.1.sum, sV (.int .i64 t45.2.2.1.at_), sV v138] :: Blk ad2 [sV (.int .i64 0), sL zL, sL zL, sV (.int .i64 0), sV (.int .i64 0), sL zL, sL zL, sV (.int .i64 0), sV (.int .i64 0), sL zL, sL zL, sV (.int .i64 0), sV (.slice none 0 0)] :: F = L₀) wb140 ?_ ?_ ?_
  ·rintro _ S178 _ ⟨x133, x134, x135, x136, x137, v138, e179, rfl, rfl, rfl⟩
   have h := ho141; clear ho141
   try dsimp only at h
   refine GX.exit_block ?_
   refine GX.then hK81 ?_
   refine G.seq (fun _ hK180 => ?_)
   refine sr (fun _ hK181 => ?_)
   refine lb 4 0 3 [sV (strV x134), sV (.int .i64 x135), sV (.int .i64 x136)] row155 ?_
   obtain ⟨t182, wt182, h⟩ := bind_some' h
   refine st (cl fb101 (r02_Done_ok (⟨x134, x135, x136⟩ : Rd) wt182) (fun v183 S184 e185 z186 => ?_))
   obtain rfl := z186
   refine an ?_
   refine nt hK181 ?_
   refine sr (fun _ hK187 => ?_)
   refine mv ?_
   refine vl (Y.neI rfl rfl) ?_
   refine nt hK187 ?_
   refine G.cond _ rfl (fun c188 => ?_) (fun c188 => ?_)
   ·replace h := ite_t c188 h
    refine sr (fun _ hK189 => ?_)
    refine vl (Y.buildE _ [sV (.int .i64 0), sL zL, sL zL, sV (.int .i64 0), sV (.int .i64 0), sL zL, sL zL, sV (.int .i64 0), sV (.int .i64 0), sL zL, sL zL, sV (.int .i64 0), sV (.slice none 0 0)] strt48 zero48 rfl .nil) ?_
    refine mv ?_
    refine sf 6 13 [sV (.int .i64 0), sL zL, sL zL, sV (.int .i64 0), sV (.int .i64 0), sL zL, sL zL, sV (.int .i64 0), sV (.int .i64 0), sL zL, sL zL, sV (.int .i64 0), sV (.slice none 0 0)] (aggV_cells _) (oI (oL (oL (oI (oI (oL (oL (oI (oI (oL (oL (oI (oI oN))))))))))))) size48 ?_
    refine an ?_
    refine nt hK189 ?_
    refine G.ret ?_
    obtain rfl := Option.some.inj h
    exact hret _ _ _ _ 7 (l2 e11 (l2 e16 (l2 e26 (l2 e38 (l2 e48 (l2 e70 (l2 e78 (l2 e179 e185)))))))) (.cons (.row (k := 6) rfl rfl row48 (by kernel_rfl)) (.cons (.tmp rfl) .nil)) ⟨_, rfl, (Sls.nil (α := Item) _)⟩ rfl
   replace h := ite_f c188 h
   refine sk hK180 ?_
   refine sr (fun _ hK190 => ?_)
   refine lb 5 0 13 [sV (.int .i64 t13.2), sL t45.1.label, sL t45.1.value, sV (.int .i64 t45.1.at_), sV (.int .i64 t45.2.1.len), sL t45.2.1.bits, sL t45.2.1.sum, sV (.int .i64 t45.2.1.at_), sV (.int .i64 t45.2.2.1.len), sL t45.2.2.1.bits, sL t45.2.2.1.sum, sV (.int .i64 t45.2.2.1.at_), sV v138] row48 ?_
   refine GO.rowOne 0 rfl (fun z191 => ?_)
   refine sf 6 13 [sV (.int .i64 t13.2), sL t45.1.label, sL t45.1.value, sV (.int .i64 t45.1.at_), sV (.int .i64 t45.2.1.len), sL t45.2.1.bits, sL t45.2.1.sum, sV (.int .i64 t45.2.1.at_), sV (.int .i64 t45.2.2.1.len), sL t45.2.2.1.bits, sL t45.2.2.1.sum, sV (.int .i64 t45.2.2.1.at_), sV v138] (aggV_cells _) (oI (oL (oL (oI (oI (oL (oL (oI (oI (oL (oL (oI (oV (z191) oN))))))))))))) size48 ?_
   refine an ?_
   refine nt hK190 ?_
   refine G.ret ?_
   refine GX.shareR 0 rfl (fun S192 e193 q194 => ?_)
   obtain rfl := Option.some.inj h
   exact hret _ _ _ _ 7 (l2 e11 (l2 e16 (l2 e26 (l2 e38 (l2 e48 (l2 e70 (l2 e78 (l2 e179 (l2 e185 e193))))))))) (.cons (.row (k := 6) rfl rfl row48 (by kernel_rfl)) (.cons (.tmp rfl) .nil)) ⟨_, rfl, q194⟩ rfl
  ·exact ⟨Hp.le_refl _, (.slice none 0 0), rfl, rfl⟩
  rintro ⟨x133, x134, x135, x136, x137⟩ _ S131 _ ⟨e132, v138, rfl, rfl⟩ out1 h hf1 K1 hK1 hx139
  rw [r18_Read_s1] at h
  refine G.seq (fun _ hK142 => ?_)
  refine sr (fun _ hK143 => ?_)
  refine mv ?_
  refine mv ?_
  refine vl (Y.ltI rfl rfl) ?_
  refine mv ?_
  obtain ⟨b144, wb144, h⟩ := bind_some' h
  refine GO.joinB 4 90 (b144 = ·) (fun K146 hK146 => ?_) ?_
  ·replace h := wb144
   rcases Bool.eq_false_or_eq_true (decide (x133 < t67.2)) with c145 | c145
   ·replace h := ite_t c145 h
    refine gv 86 c145 (Y.fieldAddr 2 rfl fld155_2 rfl) ?_
    refine gv 86 c145 (Y.loadV 4  2 _ rfl rfl rfl rfl one3) ?_
    refine gv 86 c145 (Y.eqI rfl rfl) ?_
    refine vl (Y.pickT _ c145 rfl rfl) ?_
    refine GO.nil ?_
    refine p2 (p2 (p2 ?_))
    exact hK146 _ _ l0 (Option.some.inj h).symm
   replace h := ite_f c145 h
   refine gf 86 c145 ?_
   refine gf 86 c145 ?_
   refine gf 86 c145 ?_
   refine vl (Y.pickF _ c145 rfl rfl) ?_
   refine GO.nil ?_
   refine p2 (p2 (p2 ?_))
   exact hK146 _ _ l0 (Option.some.inj h).symm
  rintro _ S147 e148 rfl
  refine nt hK143 ?_
  refine G.cond _ rfl (fun c149 => ?_) (fun c149 => ?_)
  ·replace h := ite_t c149 h
   refine sk hK142 ?_
   refine G.seq (fun _ hK150 => ?_)
   refine G.block ?_
   refine sr (fun _ hK151 => ?_)
   refine vl (Y.buildE _ [sV (.int .i64 0), sL zL, sL zL, sV (.int .i64 0)] strt45 zero45 rfl .nil) ?_
   refine st (OS.alloc _ (by decide) zero45 (fun ad152 => ?_))
   refine sf 0 4 [sV (.int .i64 0), sL zL, sL zL, sV (.int .i64 0)] (aggV_cells _) (oI (oL (oL (oI oN)))) size45 ?_
   refine nt hK151 ?_
   refine sr (fun _ hK154 => ?_)
   refine lb 5 0 3 [sV (strV x134), sV (.int .i64 x135), sV (.int .i64 x136)] row155 ?_
   obtain ⟨t155, wt155, h⟩ := bind_some' h
   refine st (cl fb99 (r15_ReadItem_ok (⟨x134, x135, x136⟩ : Rd) wt155) (fun v156 S157 e158 z159 => ?_))
   obtain rfl := z159
   refine mv ?_
   refine vl (Y.extract _ rfl rfl) ?_
   refine vl (Y.extract _ rfl rfl) ?_
   refine sf 5 3 [sV (strV t155.1.s), sV (.int .i64 t155.1.at_), sV (.int .i64 t155.1.err)] (aggV_cells _) (oI (oI (oI oN))) size155 ?_
   refine sf 0 4 [sV (.int .i64 t155.2.len), sL t155.2.bits, sL t155.2.sum, sV (.int .i64 t155.2.at_)] (aggV_cells _) (oI (oL (oL (oI oN)))) size45 ?_
   refine nt hK154 ?_
   refine G.seq (fun _ hK160 => ?_)
   refine sr (fun _ hK161 => ?_)
   refine vl (Y.fieldAddr 2 rfl fld155_2 rfl) ?_
   refine lv 5 2 one3 ?_
   refine vl (Y.neI rfl rfl) ?_
   refine nt hK161 ?_
   refine G.cond _ rfl (fun c162 => ?_) (fun c162 => ?_)
   ·replace h := ite_t c162 h
    refine G.seq (fun _ hK163 => ?_)
    refine G.drawS 3 _ (Blk ad152 [sV (.int .i64 t155.2.len), sL t155.2.bits, sL t155.2.sum, sV (.int .i64 t155.2.at_)] :: Rw v138 x137 :: Blk ad54 [sV (.int .i64 t45.2.2.1.len), sL t45.2.2.1.bits, sL t45.2.2.1.sum, sV (.int .i64 t45.2.2.1.at_)] :: Blk ad52 [sV (.int .i64 t45.2.1.len), sL t45.2.1.bits, sL t45.2.1.sum, sV (.int .i64 t45.2.1.at_)] :: Blk ad50 [sL t45.1.label, sL t45.1.value, sV (.int .i64 t45.1.at_)] :: Blk ad18 [sV (strV t155.1.s), sV (.int .i64 t155.1.at_), sV (.int .i64 t155.1.err)] :: Blk ad5 [sV (.int .i64 t13.2), sL t45.1.label, sL t45.1.value, sV (.int .i64 t45.1.at_), sV (.int .i64 t45.2.1.len), sL t45.2.1.bits, sL t45.2.1.sum, sV (.int .i64 t45.2.1.at_), sV (.int .i64 t45.2.2.1.len), sL t45.2.2.1.bits, sL t45.2.2.1.sum, sV (.int .i64 t45.2.2.1.at_), sV v138] :: (fun _ => True) :: F) mixed .refl (by kernel_rfl) ?_
    refine tx 0 rfl (.same (.same (.same (.same (.same (.same (.same (.lose .refl)))))))) hQ (fun _ _ _ => Y.buildE _ [sV (.int .i64 0), sL zL, sL zL, sV (.int .i64 0), sV (.int .i64 0), sL zL, sL zL, sV (.int .i64 0), sV (.int .i64 0), sL zL, sL zL, sV (.int .i64 0), sV (.slice none 0 0)] strt48 zero48 rfl .nil) ?_
    refine tx 1 rfl (.same (.same (.same (.same (.same (.same (.same (.lose .refl)))))))) hQ (fun _ _ _ => Y.fieldAddr 2 rfl fld155_2 rfl) ?_
    refine tx 2 rfl (.same (.same (.same (.same (.same (.same (.same (.lose .refl)))))))) hQ (fun S₀ X₀ e₀ => Y.loadV (X₀.length + 5)  2 _ rfl (Lk rfl) rfl rfl one3) ?_
    refine g1 3 ?_
    refine n2 rfl (OS.store 7 0 13 [sV (.int .i64 0), sL zL, sL zL, sV (.int .i64 0), sV (.int .i64 0), sL zL, sL zL, sV (.int .i64 0), sV (.int .i64 0), sL zL, sL zL, sV (.int .i64 0), sV (.slice none 0 0)] (r := [sV (.int .i64 0), sL zL, sL zL, sV (.int .i64 0), sV (.int .i64 0), sL zL, sL zL, sV (.int .i64 0), sV (.int .i64 0), sL zL, sL zL, sV (.int .i64 0), sV (.slice none 0 0)]) rfl rfl (aggV_cells _) (oI (oL (oL (oI (oI (oL (oL (oI (oI (oL (oL (oI (oI oN))))))))))))) rfl rfl size48 (by kernel_rfl) (by kernel_rfl) (by kernel_rfl) ⟨⟨[], (.same (.same (.same (.same (.same (.same (.same (.lose .refl)))))))), l0⟩, ?_⟩)
    refine tx 4 rfl (.same (.same (.same (.same (.same (.same (.same (.lose .refl)))))))) hQ (fun _ _ _ => Y.assign rfl) ?_
    refine dn ?_
    refine GX.then hK163 ?_
    refine G.ret ?_
    obtain rfl := Option.some.inj h
    obtain rfl := hf1 _ rfl
    have h := ho141
    try dsimp only at h
    obtain rfl := Option.some.inj h
    exact hret _ _ _ _ 8 (l2 e11 (l2 e16 (l2 e26 (l2 e38 (l2 e48 (l2 e70 (l2 e78 (l2 e132 (l2 e148 e158))))))))) (.cons (.row (k := 7) rfl rfl row48 (by kernel_rfl)) (.cons (.tmp rfl) .nil)) ⟨_, rfl, (Sls.nil (α := Item) _)⟩ rfl
   replace h := ite_f c162 h
   refine sk hK160 ?_
   refine G.seq (fun _ hK164 => ?_)
   refine sr (fun _ hK165 => ?_)
   refine lb 0 0 4 [sV (.int .i64 t155.2.len), sL t155.2.bits, sL t155.2.sum, sV (.int .i64 t155.2.at_)] row45 ?_
   obtain ⟨t166, wt166, h⟩ := bind_some' h
   refine st (cl fb100 (r15_Good_ok t155.2 wt166) (fun v167 S168 e169 z170 => ?_))
   obtain rfl := z170
   refine vl (Y.not rfl) ?_
   refine nt hK165 ?_
   refine G.cond _ rfl (fun c171 => ?_) (fun c171 => ?_)
   ·replace h := ite_t c171 h
    refine sr (fun _ hK172 => ?_)
    refine vl (Y.buildE _ [sV (.int .i64 0), sL zL, sL zL, sV (.int .i64 0), sV (.int .i64 0), sL zL, sL zL, sV (.int .i64 0), sV (.int .i64 0), sL zL, sL zL, sV (.int .i64 0), sV (.slice none 0 0)] strt48 zero48 rfl .nil) ?_
    refine sf 7 13 [sV (.int .i64 0), sL zL, sL zL, sV (.int .i64 0), sV (.int .i64 0), sL zL, sL zL, sV (.int .i64 0), sV (.int .i64 0), sL zL, sL zL, sV (.int .i64 0), sV (.slice none 0 0)] (aggV_cells _) (oI (oL (oL (oI (oI (oL (oL (oI (oI (oL (oL (oI (oI oN))))))))))))) size48 ?_
    refine an ?_
    refine nt hK172 ?_
    refine G.ret ?_
    obtain rfl := Option.some.inj h
    obtain rfl := hf1 _ rfl
    have h := ho141
    try dsimp only at h
    obtain rfl := Option.some.inj h
    exact hret _ _ _ _ 8 (l2 e11 (l2 e16 (l2 e26 (l2 e38 (l2 e48 (l2 e70 (l2 e78 (l2 e132 (l2 e148 (l2 e158 e169)))))))))) (.cons (.row (k := 7) rfl rfl row48 (by kernel_rfl)) (.cons (.tmp rfl) .nil)) ⟨_, rfl, (Sls.nil (α := Item) _)⟩ rfl
   replace h := ite_f c171 h
   refine sk hK164 ?_
   refine G.region ?_
   refine vl (Y.fieldAddr 198 rfl fld48_4 rfl) ?_
   refine lv 6 12 one46 ?_
   refine lb 0 0 4 [sV (.int .i64 t155.2.len), sL t155.2.bits, sL t155.2.sum, sV (.int .i64 t155.2.at_)] row45 ?_
   refine bs ([t155.2] : List Item) el46 (fun v173 => ?_)
   obtain ⟨g175, h⟩ := req_bind h
   refine st (OS.append (xs := x137) (ys := ([t155.2] : List Item)) 2 (by decide) rfl rfl rfl (Rw.src (k := 0) rfl) el46 src46 g175 (fun v176 => ?_))
   refine vl (Y.fieldAddr 198 rfl fld48_4 rfl) ?_
   refine GO.rowOne 2 rfl (fun z177 => ?_)
   refine so 7 12 1 [sV (.int .i64 t13.2), sL t45.1.label, sL t45.1.value, sV (.int .i64 t45.1.at_), sV (.int .i64 t45.2.1.len), sL t45.2.1.bits, sL t45.2.1.sum, sV (.int .i64 t45.2.1.at_), sV (.int .i64 t45.2.2.1.len), sL t45.2.2.1.bits, sL t45.2.2.1.sum, sV (.int .i64 t45.2.2.1.at_), sV v176] (r := [sV v176]) (cells_one z177) (oV (z177) oN) size46 ?_
   refine GO.nil ?_
   refine GX.normal_block ?_
   refine GX.then hK150 ?_
   refine G.region ?_
   refine mv ?_
   refine vl (Y.addI rfl rfl) ?_
   refine an ?_
   refine GO.nil ?_
   obtain rfl := Option.some.inj h
   refine GX.keep [14, 13, 5, 4, 2] rfl ?_
   refine GX.less 2 rfl ?_
   exact hK1 _ _ _ _ rfl ⟨(l2 e132 (l2 e148 (l2 e158 e169))), v176, rfl, rfl⟩
  replace h := ite_f c149 h
  refine G.exit ?_
  refine GX.exit_then ?_
  obtain rfl := Option.some.inj h
  refine GX.keep [5, 4, 2] rfl ?_
  exact hx139 _ _ _ ⟨_, _, _, _, _, _, (l2 e132 e148), (hf1 _ rfl).symm, rfl, rfl⟩
 replace h := ite_f c32 h
 refine sk hK30 ?_
 refine sr (fun _ hK195 => ?_)
 refine lb 0 0 3 [sV (strV t13.1.s), sV (.int .i64 t13.1.at_), sV (.int .i64 t13.1.err)] row155 ?_
 obtain ⟨t196, wt196, h⟩ := bind_some' h
 refine st (cl fb95 (r02_ReadNumber_ok t13.1 wt196) (fun v197 S198 e199 z200 => ?_))
 obtain rfl := z200
 refine mv ?_
 refine vl (Y.extract _ rfl rfl) ?_
 refine vl (Y.extract _ rfl rfl) ?_
 refine sf 0 3 [sV (strV t196.1.s), sV (.int .i64 t196.1.at_), sV (.int .i64 t196.1.err)] (aggV_cells _) (oI (oI (oI oN))) size155 ?_
 refine an ?_
 refine nt hK195 ?_
 refine G.seq (fun _ hK201 => ?_)
 refine sr (fun _ hK202 => ?_)
 refine vl (Y.fieldAddr 2 rfl fld155_2 rfl) ?_
 refine lv 0 2 one3 ?_
 refine vl (Y.eqI rfl rfl) ?_
 refine mv ?_
 obtain ⟨b203, wb203, h⟩ := bind_some' h
 refine GO.joinB 3 81 (b203 = ·) (fun K205 hK205 => ?_) ?_
 ·replace h := wb203
  rcases Bool.eq_false_or_eq_true (t196.1.err == (0 : Int)) with c204 | c204
  ·replace h := ite_t c204 h
   refine gv 78 c204 (Y.move rfl) ?_
   refine gv 78 c204 (Y.gtI rfl rfl) ?_
   refine vl (Y.pickT _ c204 rfl rfl) ?_
   refine GO.nil ?_
   refine p2 (p2 ?_)
   exact hK205 _ _ l0 (Option.some.inj h).symm
  replace h := ite_f c204 h
  refine gf 78 c204 ?_
  refine gf 78 c204 ?_
  refine vl (Y.pickF _ c204 rfl rfl) ?_
  refine GO.nil ?_
  refine p2 (p2 ?_)
  exact hK205 _ _ l0 (Option.some.inj h).symm
 rintro _ S206 e207 rfl
 refine nt hK202 ?_
 refine G.cond _ rfl (fun c208 => ?_) (fun c208 => ?_)
 ·replace h := ite_t c208 h
  refine sr (fun _ hK209 => ?_)
  refine vl (Y.buildE _ [sV (.int .i64 0), sL zL, sL zL, sV (.int .i64 0), sV (.int .i64 0), sL zL, sL zL, sV (.int .i64 0), sV (.int .i64 0), sL zL, sL zL, sV (.int .i64 0), sV (.slice none 0 0)] strt48 zero48 rfl .nil) ?_
  refine sf 2 13 [sV (.int .i64 0), sL zL, sL zL, sV (.int .i64 0), sV (.int .i64 0), sL zL, sL zL, sV (.int .i64 0), sV (.int .i64 0), sL zL, sL zL, sV (.int .i64 0), sV (.slice none 0 0)] (aggV_cells _) (oI (oL (oL (oI (oI (oL (oL (oI (oI (oL (oL (oI (oI oN))))))))))))) size48 ?_
  refine an ?_
  refine nt hK209 ?_
  refine G.ret ?_
  obtain rfl := Option.some.inj h
  exact hret _ _ _ _ 3 (l2 e11 (l2 e16 (l2 e26 (l2 e199 e207)))) (.cons (.row (k := 2) rfl rfl row48 (by kernel_rfl)) (.cons (.tmp rfl) .nil)) ⟨_, rfl, (Sls.nil (α := Item) _)⟩ rfl
 replace h := ite_f c208 h
 refine sk hK201 ?_
 refine G.seq (fun _ hK210 => ?_)
 refine sr (fun _ hK211 => ?_)
 refine an ?_
 refine nt hK211 ?_
 refine G.block ?_
 refine G.nilRow (α := Item) ?_
 obtain ⟨b269, wb269, ho270⟩ := bind_some' h
 refine G.keep [14, 13, 5, 4, 2] rfl ?_
 refine G.loopK (r18_Read_s2 t196) (fun s₀ E' S' L' => match s₀ with | (x262, x263, x264, x265, x266) => S206.le S' ∧ ∃ (v267 : Value), E' = [(14, .int .i64 x262), (13, .int .i64 t196.2), (5, .pointer (some ⟨ad18, 0, none⟩)), (4, .pointer (some ⟨ad5, 0, none⟩)), (2, .pointer (some ⟨ad2, 0, none⟩))] ∧ Rw v267 x266 :: Blk ad18 [sV (strV x263), sV (.int .i64 x264), sV (.int .i64 x265)] :: Blk ad5 [sV (.int .i64 t13.2), sL zL, sL zL, sV (.int .i64 0), sV (.int .i64 0), sL zL, sL zL, sV (.int .i64 0), sV (.int .i64 0), sL zL, sL zL, sV (.int .i64 0), sV v267] :: Blk ad2 [sV (.int .i64 0), sL zL, sL zL, sV (.int .i64 0), sV (.int .i64 0), sL zL, sL zL, sV (.int .i64 0), sV (.int .i64 0), sL zL, sL zL, sV (.int .i64 0), sV (.slice none 0 0)] :: F = L') b269 0 (fun E₀ S₀ L₀ => ∃ (x262 : Int) (x263 : Str) (x264 : Int) (x265 : Int) (x266 : (List Item)) (v267 : Value), S206.le S₀ ∧ b269 = .inr (x262, x263, x264, x265, x266) ∧ E₀ = [(5, .pointer (some ⟨ad18, 0, none⟩)), (4, .pointer (some ⟨ad5, 0, none⟩)), (2, .pointer (some ⟨ad2, 0, none⟩))] ∧ Rw v267 x266 :: Blk ad18 [sV (strV x263), sV (.int .i64 x264), sV (.int .i64 x265)] :: Blk ad5 [sV (.int .i64 t13.2), sL zL, sL zL, sV (.int .i64 0), sV (.int .i64 0), sL zL, sL zL, sV (.int .i64 0), sV (.int .i64 0), sL zL, sL zL, sV (.int .i64 0), sV v267] :: Blk ad2 [sV (.int .i64 0), sL zL, sL zL, sV (.int .i64 0), sV (.int .i64 0), sL zL, sL zL, sV (.int .i64 0), sV (.int .i64 0), sL zL, sL zL, sV (.int .i64 0), sV (.slice none 0 0)] :: F = L₀) wb269 ?_ ?_ ?_
 ·rintro _ S307 _ ⟨x262, x263, x264, x265, x266, v267, e308, rfl, rfl, rfl⟩
  have h := ho270; clear ho270
  try dsimp only at h
  refine GX.exit_block ?_
  refine GX.then hK210 ?_
  refine G.seq (fun _ hK309 => ?_)
  refine sr (fun _ hK310 => ?_)
  refine lb 1 0 3 [sV (strV x263), sV (.int .i64 x264), sV (.int .i64 x265)] row155 ?_
  obtain ⟨t311, wt311, h⟩ := bind_some' h
  refine st (cl fb101 (r02_Done_ok (⟨x263, x264, x265⟩ : Rd) wt311) (fun v312 S313 e314 z315 => ?_))
  obtain rfl := z315
  refine an ?_
  refine nt hK310 ?_
  refine sr (fun _ hK316 => ?_)
  refine mv ?_
  refine vl (Y.neI rfl rfl) ?_
  refine nt hK316 ?_
  refine G.cond _ rfl (fun c317 => ?_) (fun c317 => ?_)
  ·replace h := ite_t c317 h
   refine sr (fun _ hK318 => ?_)
   refine vl (Y.buildE _ [sV (.int .i64 0), sL zL, sL zL, sV (.int .i64 0), sV (.int .i64 0), sL zL, sL zL, sV (.int .i64 0), sV (.int .i64 0), sL zL, sL zL, sV (.int .i64 0), sV (.slice none 0 0)] strt48 zero48 rfl .nil) ?_
   refine mv ?_
   refine sf 3 13 [sV (.int .i64 0), sL zL, sL zL, sV (.int .i64 0), sV (.int .i64 0), sL zL, sL zL, sV (.int .i64 0), sV (.int .i64 0), sL zL, sL zL, sV (.int .i64 0), sV (.slice none 0 0)] (aggV_cells _) (oI (oL (oL (oI (oI (oL (oL (oI (oI (oL (oL (oI (oI oN))))))))))))) size48 ?_
   refine an ?_
   refine nt hK318 ?_
   refine G.ret ?_
   obtain rfl := Option.some.inj h
   exact hret _ _ _ _ 4 (l2 e11 (l2 e16 (l2 e26 (l2 e199 (l2 e207 (l2 e308 e314)))))) (.cons (.row (k := 3) rfl rfl row48 (by kernel_rfl)) (.cons (.tmp rfl) .nil)) ⟨_, rfl, (Sls.nil (α := Item) _)⟩ rfl
  replace h := ite_f c317 h
  refine sk hK309 ?_
  refine sr (fun _ hK319 => ?_)
  refine lb 2 0 13 [sV (.int .i64 t13.2), sL zL, sL zL, sV (.int .i64 0), sV (.int .i64 0), sL zL, sL zL, sV (.int .i64 0), sV (.int .i64 0), sL zL, sL zL, sV (.int .i64 0), sV v267] row48 ?_
  refine GO.rowOne 0 rfl (fun z320 => ?_)
  refine sf 3 13 [sV (.int .i64 t13.2), sL zL, sL zL, sV (.int .i64 0), sV (.int .i64 0), sL zL, sL zL, sV (.int .i64 0), sV (.int .i64 0), sL zL, sL zL, sV (.int .i64 0), sV v267] (aggV_cells _) (oI (oL (oL (oI (oI (oL (oL (oI (oI (oL (oL (oI (oV (z320) oN))))))))))))) size48 ?_
  refine an ?_
  refine nt hK319 ?_
  refine G.ret ?_
  refine GX.shareR 0 rfl (fun S321 e322 q323 => ?_)
  obtain rfl := Option.some.inj h
  exact hret _ _ _ _ 4 (l2 e11 (l2 e16 (l2 e26 (l2 e199 (l2 e207 (l2 e308 (l2 e314 e322))))))) (.cons (.row (k := 3) rfl rfl row48 (by kernel_rfl)) (.cons (.tmp rfl) .nil)) ⟨_, rfl, q323⟩ rfl
 ·exact ⟨Hp.le_refl _, (.slice none 0 0), rfl, rfl⟩
 rintro ⟨x262, x263, x264, x265, x266⟩ _ S260 _ ⟨e261, v267, rfl, rfl⟩ out2 h hf2 K2 hK2 hx268
 rw [r18_Read_s2] at h
 refine G.seq (fun _ hK271 => ?_)
 refine sr (fun _ hK272 => ?_)
 refine mv ?_
 refine mv ?_
 refine vl (Y.ltI rfl rfl) ?_
 refine mv ?_
 obtain ⟨b273, wb273, h⟩ := bind_some' h
 refine GO.joinB 4 90 (b273 = ·) (fun K275 hK275 => ?_) ?_
 ·replace h := wb273
  rcases Bool.eq_false_or_eq_true (decide (x262 < t196.2)) with c274 | c274
  ·replace h := ite_t c274 h
   refine gv 86 c274 (Y.fieldAddr 2 rfl fld155_2 rfl) ?_
   refine gv 86 c274 (Y.loadV 1  2 _ rfl rfl rfl rfl one3) ?_
   refine gv 86 c274 (Y.eqI rfl rfl) ?_
   refine vl (Y.pickT _ c274 rfl rfl) ?_
   refine GO.nil ?_
   refine p2 (p2 (p2 ?_))
   exact hK275 _ _ l0 (Option.some.inj h).symm
  replace h := ite_f c274 h
  refine gf 86 c274 ?_
  refine gf 86 c274 ?_
  refine gf 86 c274 ?_
  refine vl (Y.pickF _ c274 rfl rfl) ?_
  refine GO.nil ?_
  refine p2 (p2 (p2 ?_))
  exact hK275 _ _ l0 (Option.some.inj h).symm
 rintro _ S276 e277 rfl
 refine nt hK272 ?_
 refine G.cond _ rfl (fun c278 => ?_) (fun c278 => ?_)
 ·replace h := ite_t c278 h
  refine sk hK271 ?_
  refine G.seq (fun _ hK279 => ?_)
  refine G.block ?_
  refine sr (fun _ hK280 => ?_)
  refine vl (Y.buildE _ [sV (.int .i64 0), sL zL, sL zL, sV (.int .i64 0)] strt45 zero45 rfl .nil) ?_
  refine st (OS.alloc _ (by decide) zero45 (fun ad281 => ?_))
  refine sf 0 4 [sV (.int .i64 0), sL zL, sL zL, sV (.int .i64 0)] (aggV_cells _) (oI (oL (oL (oI oN)))) size45 ?_
  refine nt hK280 ?_
  refine sr (fun _ hK283 => ?_)
  refine lb 2 0 3 [sV (strV x263), sV (.int .i64 x264), sV (.int .i64 x265)] row155 ?_
  obtain ⟨t284, wt284, h⟩ := bind_some' h
  refine st (cl fb99 (r15_ReadItem_ok (⟨x263, x264, x265⟩ : Rd) wt284) (fun v285 S286 e287 z288 => ?_))
  obtain rfl := z288
  refine mv ?_
  refine vl (Y.extract _ rfl rfl) ?_
  refine vl (Y.extract _ rfl rfl) ?_
  refine sf 2 3 [sV (strV t284.1.s), sV (.int .i64 t284.1.at_), sV (.int .i64 t284.1.err)] (aggV_cells _) (oI (oI (oI oN))) size155 ?_
  refine sf 0 4 [sV (.int .i64 t284.2.len), sL t284.2.bits, sL t284.2.sum, sV (.int .i64 t284.2.at_)] (aggV_cells _) (oI (oL (oL (oI oN)))) size45 ?_
  refine nt hK283 ?_
  refine G.seq (fun _ hK289 => ?_)
  refine sr (fun _ hK290 => ?_)
  refine vl (Y.fieldAddr 2 rfl fld155_2 rfl) ?_
  refine lv 2 2 one3 ?_
  refine vl (Y.neI rfl rfl) ?_
  refine nt hK290 ?_
  refine G.cond _ rfl (fun c291 => ?_) (fun c291 => ?_)
  ·replace h := ite_t c291 h
   refine G.seq (fun _ hK292 => ?_)
   refine G.drawS 3 _ (Blk ad281 [sV (.int .i64 t284.2.len), sL t284.2.bits, sL t284.2.sum, sV (.int .i64 t284.2.at_)] :: Rw v267 x266 :: Blk ad18 [sV (strV t284.1.s), sV (.int .i64 t284.1.at_), sV (.int .i64 t284.1.err)] :: Blk ad5 [sV (.int .i64 t13.2), sL zL, sL zL, sV (.int .i64 0), sV (.int .i64 0), sL zL, sL zL, sV (.int .i64 0), sV (.int .i64 0), sL zL, sL zL, sV (.int .i64 0), sV v267] :: (fun _ => True) :: F) mixed .refl (by kernel_rfl) ?_
   refine tx 0 rfl (.same (.same (.same (.same (.lose .refl))))) hQ (fun _ _ _ => Y.buildE _ [sV (.int .i64 0), sL zL, sL zL, sV (.int .i64 0), sV (.int .i64 0), sL zL, sL zL, sV (.int .i64 0), sV (.int .i64 0), sL zL, sL zL, sV (.int .i64 0), sV (.slice none 0 0)] strt48 zero48 rfl .nil) ?_
   refine tx 1 rfl (.same (.same (.same (.same (.lose .refl))))) hQ (fun _ _ _ => Y.fieldAddr 2 rfl fld155_2 rfl) ?_
   refine tx 2 rfl (.same (.same (.same (.same (.lose .refl))))) hQ (fun S₀ X₀ e₀ => Y.loadV (X₀.length + 2)  2 _ rfl (Lk rfl) rfl rfl one3) ?_
   refine g1 3 ?_
   refine n2 rfl (OS.store 4 0 13 [sV (.int .i64 0), sL zL, sL zL, sV (.int .i64 0), sV (.int .i64 0), sL zL, sL zL, sV (.int .i64 0), sV (.int .i64 0), sL zL, sL zL, sV (.int .i64 0), sV (.slice none 0 0)] (r := [sV (.int .i64 0), sL zL, sL zL, sV (.int .i64 0), sV (.int .i64 0), sL zL, sL zL, sV (.int .i64 0), sV (.int .i64 0), sL zL, sL zL, sV (.int .i64 0), sV (.slice none 0 0)]) rfl rfl (aggV_cells _) (oI (oL (oL (oI (oI (oL (oL (oI (oI (oL (oL (oI (oI oN))))))))))))) rfl rfl size48 (by kernel_rfl) (by kernel_rfl) (by kernel_rfl) ⟨⟨[], (.same (.same (.same (.same (.lose .refl))))), l0⟩, ?_⟩)
   refine tx 4 rfl (.same (.same (.same (.same (.lose .refl))))) hQ (fun _ _ _ => Y.assign rfl) ?_
   refine dn ?_
   refine GX.then hK292 ?_
   refine G.ret ?_
   obtain rfl := Option.some.inj h
   obtain rfl := hf2 _ rfl
   have h := ho270
   try dsimp only at h
   obtain rfl := Option.some.inj h
   exact hret _ _ _ _ 5 (l2 e11 (l2 e16 (l2 e26 (l2 e199 (l2 e207 (l2 e261 (l2 e277 e287))))))) (.cons (.row (k := 4) rfl rfl row48 (by kernel_rfl)) (.cons (.tmp rfl) .nil)) ⟨_, rfl, (Sls.nil (α := Item) _)⟩ rfl
  replace h := ite_f c291 h
  refine sk hK289 ?_
  refine G.seq (fun _ hK293 => ?_)
  refine sr (fun _ hK294 => ?_)
  refine lb 0 0 4 [sV (.int .i64 t284.2.len), sL t284.2.bits, sL t284.2.sum, sV (.int .i64 t284.2.at_)] row45 ?_
  obtain ⟨t295, wt295, h⟩ := bind_some' h
  refine st (cl fb100 (r15_Good_ok t284.2 wt295) (fun v296 S297 e298 z299 => ?_))
  obtain rfl := z299
  refine vl (Y.not rfl) ?_
  refine nt hK294 ?_
  refine G.cond _ rfl (fun c300 => ?_) (fun c300 => ?_)
  ·replace h := ite_t c300 h
   refine sr (fun _ hK301 => ?_)
   refine vl (Y.buildE _ [sV (.int .i64 0), sL zL, sL zL, sV (.int .i64 0), sV (.int .i64 0), sL zL, sL zL, sV (.int .i64 0), sV (.int .i64 0), sL zL, sL zL, sV (.int .i64 0), sV (.slice none 0 0)] strt48 zero48 rfl .nil) ?_
   refine sf 4 13 [sV (.int .i64 0), sL zL, sL zL, sV (.int .i64 0), sV (.int .i64 0), sL zL, sL zL, sV (.int .i64 0), sV (.int .i64 0), sL zL, sL zL, sV (.int .i64 0), sV (.slice none 0 0)] (aggV_cells _) (oI (oL (oL (oI (oI (oL (oL (oI (oI (oL (oL (oI (oI oN))))))))))))) size48 ?_
   refine an ?_
   refine nt hK301 ?_
   refine G.ret ?_
   obtain rfl := Option.some.inj h
   obtain rfl := hf2 _ rfl
   have h := ho270
   try dsimp only at h
   obtain rfl := Option.some.inj h
   exact hret _ _ _ _ 5 (l2 e11 (l2 e16 (l2 e26 (l2 e199 (l2 e207 (l2 e261 (l2 e277 (l2 e287 e298)))))))) (.cons (.row (k := 4) rfl rfl row48 (by kernel_rfl)) (.cons (.tmp rfl) .nil)) ⟨_, rfl, (Sls.nil (α := Item) _)⟩ rfl
  replace h := ite_f c300 h
  refine sk hK293 ?_
  refine G.region ?_
  refine vl (Y.fieldAddr 198 rfl fld48_4 rfl) ?_
  refine lv 3 12 one46 ?_
  refine lb 0 0 4 [sV (.int .i64 t284.2.len), sL t284.2.bits, sL t284.2.sum, sV (.int .i64 t284.2.at_)] row45 ?_
  refine bs ([t284.2] : List Item) el46 (fun v302 => ?_)
  obtain ⟨g304, h⟩ := req_bind h
  refine st (OS.append (xs := x266) (ys := ([t284.2] : List Item)) 2 (by decide) rfl rfl rfl (Rw.src (k := 0) rfl) el46 src46 g304 (fun v305 => ?_))
  refine vl (Y.fieldAddr 198 rfl fld48_4 rfl) ?_
  refine GO.rowOne 2 rfl (fun z306 => ?_)
  refine so 4 12 1 [sV (.int .i64 t13.2), sL zL, sL zL, sV (.int .i64 0), sV (.int .i64 0), sL zL, sL zL, sV (.int .i64 0), sV (.int .i64 0), sL zL, sL zL, sV (.int .i64 0), sV v305] (r := [sV v305]) (cells_one z306) (oV (z306) oN) size46 ?_
  refine GO.nil ?_
  refine GX.normal_block ?_
  refine GX.then hK279 ?_
  refine G.region ?_
  refine mv ?_
  refine vl (Y.addI rfl rfl) ?_
  refine an ?_
  refine GO.nil ?_
  obtain rfl := Option.some.inj h
  refine GX.keep [14, 13, 5, 4, 2] rfl ?_
  refine GX.less 2 rfl ?_
  exact hK2 _ _ _ _ rfl ⟨(l2 e261 (l2 e277 (l2 e287 e298))), v305, rfl, rfl⟩
 replace h := ite_f c278 h
 refine G.exit ?_
 refine GX.exit_then ?_
 obtain rfl := Option.some.inj h
 refine GX.keep [5, 4, 2] rfl ?_
 exact hx268 _ _ _ ⟨_, _, _, _, _, _, (l2 e261 e277), (hf2 _ rfl).symm, rfl, rfl⟩

end
end Go.Ch
end
section
/- Functions of the program: what each comes to, proved. -/
set_option linter.unusedVariables false
set_option linter.unusedSimpArgs false
set_option maxRecDepth 100000
set_option maxHeartbeats 4000000
namespace Go.Ch
open Go.RowKit (wrap64)
open Go.Proofs
noncomputable section
/- chirograph/chirographref18.Same -/
def r18_Same_s1 (a0 : Proof) (a1 : Proof) : (Int) → Option ((Int) ⊕ (Bool ⊕ (Int)))
 | x38 => (if (decide (x38 < (lenI a0.path))) = true then ((req ((0 : Int) ≤ x38 ∧ x38 < lenI a0.path)).bind fun _ => ((req ((0 : Int) ≤ x38 ∧ x38 < lenI a1.path)).bind fun _ => (if (!((((getI a0.path x38).len) == ((getI a1.path x38).len)) && ((((getI a0.path x38).bits) == ((getI a1.path x38).bits)) && ((((getI a0.path x38).sum) == ((getI a1.path x38).sum)) && ((((getI a0.path x38).at_) == ((getI a1.path x38).at_)) && true))))) = true then some (.inr (.inl false)) else some (.inl (wrap64 (x38 + (1 : Int))))))) else some (.inr (.inr x38)))

def r18_Same  (a0 : Proof) (a1 : Proof) : Option Bool :=
 ((if (a0.end_ != a1.end_) = true then some true else some (!((a0.leaf.label == a1.leaf.label) && ((a0.leaf.value == a1.leaf.value) && ((a0.leaf.at_ == a1.leaf.at_) && true))))).bind fun b12 => ((if b12 = true then some true else some (!((a0.a.len == a1.a.len) && ((a0.a.bits == a1.a.bits) && ((a0.a.sum == a1.a.sum) && ((a0.a.at_ == a1.a.at_) && true)))))).bind fun b17 => ((if b17 = true then some true else some (!((a0.b.len == a1.b.len) && ((a0.b.bits == a1.b.bits) && ((a0.b.sum == a1.b.sum) && ((a0.b.at_ == a1.b.at_) && true)))))).bind fun b22 => ((if b22 = true then some true else some ((lenI a0.path) != (lenI a1.path))).bind fun b27 => (if b27 = true then some false else ((iter (r18_Same_s1 a0 a1) (0 : Int)).bind fun b40 => (match b40 with | .inl r₀ => some r₀ | .inr x38 => some true)))))))

theorem r18_Same_ok {S : Hp} (a0 : Proof) (a1 : Proof) {v1 : Value} (q2 : Sls S v1 a0.path) {v3 : Value} (q4 : Sls S v3 a1.path) {r : Bool} (h : r18_Same a0 a1 = some r) : Fn Tryz.prog 35 [aggV [sV (.int .i64 a0.end_), sL a0.leaf.label, sL a0.leaf.value, sV (.int .i64 a0.leaf.at_), sV (.int .i64 a0.a.len), sL a0.a.bits, sL a0.a.sum, sV (.int .i64 a0.a.at_), sV (.int .i64 a0.b.len), sL a0.b.bits, sL a0.b.sum, sV (.int .i64 a0.b.at_), sV v1], aggV [sV (.int .i64 a1.end_), sL a1.leaf.label, sL a1.leaf.value, sV (.int .i64 a1.leaf.at_), sV (.int .i64 a1.a.len), sL a1.a.bits, sL a1.a.sum, sV (.int .i64 a1.a.at_), sV (.int .i64 a1.b.len), sL a1.b.bits, sL a1.b.sum, sV (.int .i64 a1.b.at_), sV v3]] S (fun v S' => v = .bool r) := by
 unfold r18_Same at h
 refine fo [.tmp 4] 59 Tryz.func35 Tryz.ntmps35 (fun o F Q hQ hN hret => ?_)
 refine sr (fun _ hK5 => ?_)
 refine st (OS.boxA (by decide) rfl (fun ad6 => ?_))
 refine st (OS.boxA (by decide) rfl (fun ad8 => ?_))
 refine an ?_
 refine nt hK5 ?_
 refine G.seq (fun _ hK10 => ?_)
 refine sr (fun _ hK11 => ?_)
 refine vl (Y.fieldAddr 0 rfl fld48_0 rfl) ?_
 refine lv 1 0 one3 ?_
 refine vl (Y.fieldAddr 0 rfl fld48_0 rfl) ?_
 refine lv 0 0 one3 ?_
 refine vl (Y.neI rfl rfl) ?_
 refine mv ?_
 obtain ⟨b12, wb12, h⟩ := bind_some' h
 refine GO.joinB 6 17 (b12 = ·) (fun K14 hK14 => ?_) ?_
 ·replace h := wb12
  rcases Bool.eq_false_or_eq_true (a0.end_ != a1.end_) with c13 | c13
  ·replace h := ite_t c13 h
   refine gf 11 c13 ?_
   refine gf 11 c13 ?_
   refine gf 11 c13 ?_
   refine gf 11 c13 ?_
   refine gf 11 c13 ?_
   refine vl (Y.pickT _ c13 rfl rfl) ?_
   refine GO.nil ?_
   refine p2 (p2 (p2 (p2 (p2 ?_))))
   exact hK14 _ _ l0 (Option.some.inj h).symm
  replace h := ite_f c13 h
  refine gv 11 c13 (Y.fieldAddr 1 rfl fld48_1 rfl) ?_
  refine gv 11 c13 (Y.loadB 1  1 3 [sL a0.leaf.label, sL a0.leaf.value, sV (.int .i64 a0.leaf.at_)] rfl rfl rfl rfl row41 (by kernel_rfl)) ?_
  refine gv 11 c13 (Y.fieldAddr 1 rfl fld48_1 rfl) ?_
  refine gv 11 c13 (Y.loadB 0  1 3 [sL a1.leaf.label, sL a1.leaf.value, sV (.int .i64 a1.leaf.at_)] rfl rfl rfl rfl row41 (by kernel_rfl)) ?_
  refine gv 11 c13 (Y.neA rfl rfl eqt41 (by decide) (EqV.struct Tryz.underlying41 nh41 (.row (cells [sL a0.leaf.label]) (cells [sL a1.leaf.label]) (by decide) row23 (cells_cut 0 1 rfl rfl (by kernel_rfl)) (cells_cut 0 1 rfl rfl (by kernel_rfl)) (EqV.lab _ _ Tryz.underlying23 one5 Tryz.underlying5) (.row (cells [sL a0.leaf.value]) (cells [sL a1.leaf.value]) (by decide) row23 (cells_cut 1 1 rfl rfl (by kernel_rfl)) (cells_cut 1 1 rfl rfl (by kernel_rfl)) (EqV.lab _ _ Tryz.underlying23 one5 Tryz.underlying5) (.one (.int .i64 a0.leaf.at_) (.int .i64 a1.leaf.at_) (by decide) one3 (cells_get 2 rfl rfl) (cells_get 2 rfl rfl) (EqV.mono (EqV.int _ _ _ _ Tryz.underlying3) (by decide)) .nil))))) ?_
  refine vl (Y.pickF _ c13 rfl rfl) ?_
  refine GO.nil ?_
  refine p2 (p2 (p2 (p2 (p2 ?_))))
  exact hK14 _ _ l0 (Option.some.inj h).symm
 rintro _ S15 e16 rfl
 replace q2 := q2.up e16
 replace q4 := q4.up e16
 refine mv ?_
 obtain ⟨b17, wb17, h⟩ := bind_some' h
 refine GO.joinB 6 24 (b17 = ·) (fun K19 hK19 => ?_) ?_
 ·replace h := wb17
  rcases Bool.eq_false_or_eq_true b12 with c18 | c18
  ·replace h := ite_t c18 h
   refine gf 18 c18 ?_
   refine gf 18 c18 ?_
   refine gf 18 c18 ?_
   refine gf 18 c18 ?_
   refine gf 18 c18 ?_
   refine vl (Y.pickT _ c18 rfl rfl) ?_
   refine GO.nil ?_
   refine p2 (p2 (p2 (p2 (p2 ?_))))
   exact hK19 _ _ l0 (Option.some.inj h).symm
  replace h := ite_f c18 h
  refine gv 18 c18 (Y.fieldAddr 66 rfl fld48_2 rfl) ?_
  refine gv 18 c18 (Y.loadB 1  4 4 [sV (.int .i64 a0.a.len), sL a0.a.bits, sL a0.a.sum, sV (.int .i64 a0.a.at_)] rfl rfl rfl rfl row45 (by kernel_rfl)) ?_
  refine gv 18 c18 (Y.fieldAddr 66 rfl fld48_2 rfl) ?_
  refine gv 18 c18 (Y.loadB 0  4 4 [sV (.int .i64 a1.a.len), sL a1.a.bits, sL a1.a.sum, sV (.int .i64 a1.a.at_)] rfl rfl rfl rfl row45 (by kernel_rfl)) ?_
  refine gv 18 c18 (Y.neA rfl rfl eqt45 (by decide) (EqV.struct Tryz.underlying45 nh45 (.one (.int .i64 a0.a.len) (.int .i64 a1.a.len) (by decide) one3 (cells_get 0 rfl rfl) (cells_get 0 rfl rfl) (EqV.mono (EqV.int _ _ _ _ Tryz.underlying3) (by decide)) (.row (cells [sL a0.a.bits]) (cells [sL a1.a.bits]) (by decide) row23 (cells_cut 1 1 rfl rfl (by kernel_rfl)) (cells_cut 1 1 rfl rfl (by kernel_rfl)) (EqV.lab _ _ Tryz.underlying23 one5 Tryz.underlying5) (.row (cells [sL a0.a.sum]) (cells [sL a1.a.sum]) (by decide) row23 (cells_cut 2 1 rfl rfl (by kernel_rfl)) (cells_cut 2 1 rfl rfl (by kernel_rfl)) (EqV.lab _ _ Tryz.underlying23 one5 Tryz.underlying5) (.one (.int .i64 a0.a.at_) (.int .i64 a1.a.at_) (by decide) one3 (cells_get 3 rfl rfl) (cells_get 3 rfl rfl) (EqV.mono (EqV.int _ _ _ _ Tryz.underlying3) (by decide)) .nil)))))) ?_
  refine vl (Y.pickF _ c18 rfl rfl) ?_
  refine GO.nil ?_
  refine p2 (p2 (p2 (p2 (p2 ?_))))
  exact hK19 _ _ l0 (Option.some.inj h).symm
 rintro _ S20 e21 rfl
 replace q2 := q2.up e21
 replace q4 := q4.up e21
 refine mv ?_
 obtain ⟨b22, wb22, h⟩ := bind_some' h
 refine GO.joinB 6 31 (b22 = ·) (fun K24 hK24 => ?_) ?_
 ·replace h := wb22
  rcases Bool.eq_false_or_eq_true b17 with c23 | c23
  ·replace h := ite_t c23 h
   refine gf 25 c23 ?_
   refine gf 25 c23 ?_
   refine gf 25 c23 ?_
   refine gf 25 c23 ?_
   refine gf 25 c23 ?_
   refine vl (Y.pickT _ c23 rfl rfl) ?_
   refine GO.nil ?_
   refine p2 (p2 (p2 (p2 (p2 ?_))))
   exact hK24 _ _ l0 (Option.some.inj h).symm
  replace h := ite_f c23 h
  refine gv 25 c23 (Y.fieldAddr 132 rfl fld48_3 rfl) ?_
  refine gv 25 c23 (Y.loadB 1  8 4 [sV (.int .i64 a0.b.len), sL a0.b.bits, sL a0.b.sum, sV (.int .i64 a0.b.at_)] rfl rfl rfl rfl row45 (by kernel_rfl)) ?_
  refine gv 25 c23 (Y.fieldAddr 132 rfl fld48_3 rfl) ?_
  refine gv 25 c23 (Y.loadB 0  8 4 [sV (.int .i64 a1.b.len), sL a1.b.bits, sL a1.b.sum, sV (.int .i64 a1.b.at_)] rfl rfl rfl rfl row45 (by kernel_rfl)) ?_
  refine gv 25 c23 (Y.neA rfl rfl eqt45 (by decide) (EqV.struct Tryz.underlying45 nh45 (.one (.int .i64 a0.b.len) (.int .i64 a1.b.len) (by decide) one3 (cells_get 0 rfl rfl) (cells_get 0 rfl rfl) (EqV.mono (EqV.int _ _ _ _ Tryz.underlying3) (by decide)) (.row (cells [sL a0.b.bits]) (cells [sL a1.b.bits]) (by decide) row23 (cells_cut 1 1 rfl rfl (by kernel_rfl)) (cells_cut 1 1 rfl rfl (by kernel_rfl)) (EqV.lab _ _ Tryz.underlying23 one5 Tryz.underlying5) (.row (cells [sL a0.b.sum]) (cells [sL a1.b.sum]) (by decide) row23 (cells_cut 2 1 rfl rfl (by kernel_rfl)) (cells_cut 2 1 rfl rfl (by kernel_rfl)) (EqV.lab _ _ Tryz.underlying23 one5 Tryz.underlying5) (.one (.int .i64 a0.b.at_) (.int .i64 a1.b.at_) (by decide) one3 (cells_get 3 rfl rfl) (cells_get 3 rfl rfl) (EqV.mono (EqV.int _ _ _ _ Tryz.underlying3) (by decide)) .nil)))))) ?_
  refine vl (Y.pickF _ c23 rfl rfl) ?_
  refine GO.nil ?_
  refine p2 (p2 (p2 (p2 (p2 ?_))))
  exact hK24 _ _ l0 (Option.some.inj h).symm
 rintro _ S25 e26 rfl
 replace q2 := q2.up e26
 replace q4 := q4.up e26
 refine mv ?_
 obtain ⟨b27, wb27, h⟩ := bind_some' h
 refine GO.joinB 8 40 (b27 = ·) (fun K29 hK29 => ?_) ?_
 ·replace h := wb27
  rcases Bool.eq_false_or_eq_true b22 with c28 | c28
  ·replace h := ite_t c28 h
   refine gf 32 c28 ?_
   refine gf 32 c28 ?_
   refine gf 32 c28 ?_
   refine gf 32 c28 ?_
   refine gf 32 c28 ?_
   refine gf 32 c28 ?_
   refine gf 32 c28 ?_
   refine vl (Y.pickT _ c28 rfl rfl) ?_
   refine GO.nil ?_
   refine p2 (p2 (p2 (p2 (p2 (p2 (p2 ?_))))))
   exact hK29 _ _ l0 (Option.some.inj h).symm
  replace h := ite_f c28 h
  refine gv 32 c28 (Y.fieldAddr 198 rfl fld48_4 rfl) ?_
  refine gv 32 c28 (Y.loadV 1  12 _ rfl rfl rfl rfl one46) ?_
  refine gv 32 c28 (Y.lenS rfl q2 slc46) ?_
  refine gv 32 c28 (Y.fieldAddr 198 rfl fld48_4 rfl) ?_
  refine gv 32 c28 (Y.loadV 0  12 _ rfl rfl rfl rfl one46) ?_
  refine gv 32 c28 (Y.lenS rfl q4 slc46) ?_
  refine gv 32 c28 (Y.neI rfl rfl) ?_
  refine vl (Y.pickF _ c28 rfl rfl) ?_
  refine GO.nil ?_
  refine p2 (p2 (p2 (p2 (p2 (p2 (p2 ?_))))))
  exact hK29 _ _ l0 (Option.some.inj h).symm
 rintro _ S30 e31 rfl
 replace q2 := q2.up e31
 replace q4 := q4.up e31
 refine nt hK11 ?_
 refine G.cond _ rfl (fun c32 => ?_) (fun c32 => ?_)
 ·replace h := ite_t c32 h
  refine sr (fun _ hK33 => ?_)
  refine an ?_
  refine nt hK33 ?_
  refine G.ret ?_
  obtain rfl := Option.some.inj h
  exact hret _ _ _ _ 2 (l2 e16 (l2 e21 (l2 e26 e31))) (.cons (.tmp rfl) .nil) rfl rfl
 replace h := ite_f c32 h
 refine sk hK10 ?_
 refine G.seq (fun _ hK34 => ?_)
 refine sr (fun _ hK35 => ?_)
 refine vl (Y.fieldAddr 198 rfl fld48_4 rfl) ?_
 refine lv 1 12 one46 ?_
 refine vl (Y.lenS rfl q2 slc46) ?_
 refine mv ?_
 refine nt hK35 ?_
 refine G.block ?_
 obtain ⟨b40, wb40, ho41⟩ := bind_some' h
 refine G.keep [44, 43, 3, 2] rfl ?_
 refine G.loopK (r18_Same_s1 a0 a1) (fun s₀ E' S' L' => match s₀ with | x38 => S30.le S' ∧ E' = [(44, .int .i64 x38), (43, .int .i64 (lenI a0.path)), (3, .pointer (some ⟨ad8, 0, none⟩)), (2, .pointer (some ⟨ad6, 0, none⟩))] ∧ Blk ad8 [sV (.int .i64 a1.end_), sL a1.leaf.label, sL a1.leaf.value, sV (.int .i64 a1.leaf.at_), sV (.int .i64 a1.a.len), sL a1.a.bits, sL a1.a.sum, sV (.int .i64 a1.a.at_), sV (.int .i64 a1.b.len), sL a1.b.bits, sL a1.b.sum, sV (.int .i64 a1.b.at_), sV v3] :: Blk ad6 [sV (.int .i64 a0.end_), sL a0.leaf.label, sL a0.leaf.value, sV (.int .i64 a0.leaf.at_), sV (.int .i64 a0.a.len), sL a0.a.bits, sL a0.a.sum, sV (.int .i64 a0.a.at_), sV (.int .i64 a0.b.len), sL a0.b.bits, sL a0.b.sum, sV (.int .i64 a0.b.at_), sV v1] :: F = L') b40 0 (fun E₀ S₀ L₀ => ∃ (x38 : Int), S30.le S₀ ∧ b40 = .inr x38 ∧ E₀ = [] ∧ Blk ad8 [sV (.int .i64 a1.end_), sL a1.leaf.label, sL a1.leaf.value, sV (.int .i64 a1.leaf.at_), sV (.int .i64 a1.a.len), sL a1.a.bits, sL a1.a.sum, sV (.int .i64 a1.a.at_), sV (.int .i64 a1.b.len), sL a1.b.bits, sL a1.b.sum, sV (.int .i64 a1.b.at_), sV v3] :: Blk ad6 [sV (.int .i64 a0.end_), sL a0.leaf.label, sL a0.leaf.value, sV (.int .i64 a0.leaf.at_), sV (.int .i64 a0.a.len), sL a0.a.bits, sL a0.a.sum, sV (.int .i64 a0.a.at_), sV (.int .i64 a0.b.len), sL a0.b.bits, sL a0.b.sum, sV (.int .i64 a0.b.at_), sV v1] :: F = L₀) wb40 ?_ ?_ ?_
 ·rintro _ S60 _ ⟨x38, e61, rfl, rfl, rfl⟩
  have h := ho41; clear ho41
  try dsimp only at h
  replace q2 := q2.up e61
  replace q4 := q4.up e61
  refine GX.exit_block ?_
  refine GX.then hK34 ?_
  refine sr (fun _ hK62 => ?_)
  refine an ?_
  refine nt hK62 ?_
  refine G.ret ?_
  obtain rfl := Option.some.inj h
  exact hret _ _ _ _ 2 (l2 e16 (l2 e21 (l2 e26 (l2 e31 e61)))) (.cons (.tmp rfl) .nil) rfl rfl
 ·exact ⟨Hp.le_refl _, rfl, rfl⟩
 rintro x38 _ S36 _ ⟨e37, rfl, rfl⟩ out1 h hf1 K1 hK1 hx39
 rw [r18_Same_s1] at h
 replace q2 := q2.up e37
 replace q4 := q4.up e37
 refine sr (fun _ hK42 => ?_)
 refine vl (Y.ltI rfl rfl) ?_
 refine nt hK42 ?_
 refine G.seq (fun _ hK43 => ?_)
 refine G.cond _ rfl (fun c44 => ?_) (fun c44 => ?_)
 ·replace h := ite_t c44 h
  refine sk hK43 ?_
  refine G.seq (fun _ hK45 => ?_)
  refine G.block ?_
  refine sr (fun _ hK46 => ?_)
  refine mv ?_
  refine an ?_
  refine nt hK46 ?_
  refine G.seq (fun _ hK47 => ?_)
  obtain ⟨g48, h⟩ := req_bind h
  obtain ⟨ad49, p50, z51, q52⟩ := Sls.at q2 g48
  obtain ⟨g53, h⟩ := req_bind h
  obtain ⟨ad54, p55, z56, q57⟩ := Sls.at q4 g53
  refine G.drawN 11 mixed (by kernel_rfl) ?_
  refine tn 0 rfl hQ (fun _ _ _ => Y.fieldAddr 198 rfl fld48_4 rfl) ?_
  refine tn 1 rfl hQ (fun S₀ X₀ e₀ => Y.loadV (X₀.length + 1)  12 _ rfl (Lk rfl) rfl rfl one46) ?_
  refine tn 2 rfl hQ (fun _ _ _ => Y.move rfl) ?_
  refine tn 3 rfl hQ (fun _ _ _ => Y.idxS rfl z51 rfl slc46 g48) ?_
  refine tn 4 rfl hQ (fun S₀ X₀ e₀ => Y.loadS [sV (.int .i64 ((getI a0.path x38).len)), sL ((getI a0.path x38).bits), sL ((getI a0.path x38).sum), sV (.int .i64 ((getI a0.path x38).at_))] rfl (At.part (q52.up e₀) 0 4 _ rfl rfl) row45 (by kernel_rfl)) ?_
  refine tn 5 rfl hQ (fun _ _ _ => Y.fieldAddr 198 rfl fld48_4 rfl) ?_
  refine tn 6 rfl hQ (fun S₀ X₀ e₀ => Y.loadV (X₀.length + 0)  12 _ rfl (Lk rfl) rfl rfl one46) ?_
  refine tn 7 rfl hQ (fun _ _ _ => Y.move rfl) ?_
  refine tn 8 rfl hQ (fun _ _ _ => Y.idxS rfl z56 rfl slc46 g53) ?_
  refine tn 9 rfl hQ (fun S₀ X₀ e₀ => Y.loadS [sV (.int .i64 ((getI a1.path x38).len)), sL ((getI a1.path x38).bits), sL ((getI a1.path x38).sum), sV (.int .i64 ((getI a1.path x38).at_))] rfl (At.part (q57.up e₀) 0 4 _ rfl rfl) row45 (by kernel_rfl)) ?_
  refine tn 10 rfl hQ (fun _ _ _ => Y.neA rfl rfl eqt45 (by decide) (EqV.struct Tryz.underlying45 nh45 (.one (.int .i64 ((getI a0.path x38).len)) (.int .i64 ((getI a1.path x38).len)) (by decide) one3 (cells_get 0 rfl rfl) (cells_get 0 rfl rfl) (EqV.mono (EqV.int _ _ _ _ Tryz.underlying3) (by decide)) (.row (cells [sL ((getI a0.path x38).bits)]) (cells [sL ((getI a1.path x38).bits)]) (by decide) row23 (cells_cut 1 1 rfl rfl (by kernel_rfl)) (cells_cut 1 1 rfl rfl (by kernel_rfl)) (EqV.lab _ _ Tryz.underlying23 one5 Tryz.underlying5) (.row (cells [sL ((getI a0.path x38).sum)]) (cells [sL ((getI a1.path x38).sum)]) (by decide) row23 (cells_cut 2 1 rfl rfl (by kernel_rfl)) (cells_cut 2 1 rfl rfl (by kernel_rfl)) (EqV.lab _ _ Tryz.underlying23 one5 Tryz.underlying5) (.one (.int .i64 ((getI a0.path x38).at_)) (.int .i64 ((getI a1.path x38).at_)) (by decide) one3 (cells_get 3 rfl rfl) (cells_get 3 rfl rfl) (EqV.mono (EqV.int _ _ _ _ Tryz.underlying3) (by decide)) .nil)))))) ?_
  refine dn ?_
  refine GX.then hK47 ?_
  refine G.cond _ rfl (fun c58 => ?_) (fun c58 => ?_)
  ·replace h := ite_t c58 h
   refine sr (fun _ hK59 => ?_)
   refine an ?_
   refine nt hK59 ?_
   refine G.ret ?_
   obtain rfl := Option.some.inj h
   obtain rfl := hf1 _ rfl
   have h := ho41
   try dsimp only at h
   obtain rfl := Option.some.inj h
   exact hret _ _ _ _ 2 (l2 e16 (l2 e21 (l2 e26 (l2 e31 e37)))) (.cons (.tmp rfl) .nil) rfl rfl
  replace h := ite_f c58 h
  refine G.skip ?_
  refine GX.normal_block ?_
  refine GX.then hK45 ?_
  refine G.region ?_
  refine vl (Y.addI rfl rfl) ?_
  refine mv ?_
  refine GO.nil ?_
  obtain rfl := Option.some.inj h
  refine GX.keep [44, 43, 3, 2] rfl ?_
  exact hK1 _ _ _ _ rfl ⟨e37, rfl, rfl⟩
 replace h := ite_f c44 h
 refine G.exit ?_
 refine GX.exit_then ?_
 obtain rfl := Option.some.inj h
 refine GX.keep [] rfl ?_
 exact hx39 _ _ _ ⟨_, e37, (hf1 _ rfl).symm, rfl, rfl⟩

/- chirograph/chirographref18.Bytes -/
def r18_Bytes_s1 (a0 : Proof) : (Int × Str) → Option ((Int × Str) ⊕ (Str × Int ⊕ (Int × Str)))
 | (x31, x32) => (if (decide (x31 < (lenI a0.path))) = true then ((req ((0 : Int) ≤ x31 ∧ x31 < lenI a0.path)).bind fun _ => ((r15_Good (getI a0.path x31)).bind fun t50 => (if (!t50) = true then some (.inr (.inl (([] : Str), (1 : Int)))) else ((r15_Write (getI a0.path x31)).bind fun t57 => ((req (List.length x32 + List.length t57 ≤ LIM)).bind fun _ => some (.inl ((wrap64 (x31 + (1 : Int))), (x32 ++ t57)))))))) else some (.inr (.inr (x31, x32))))

def r18_Bytes_s2 (a0 : Proof) : (Int × Str) → Option ((Int × Str) ⊕ (Str × Int ⊕ (Int × Str)))
 | (x103, x104) => (if (decide (x103 < (lenI a0.path))) = true then ((req ((0 : Int) ≤ x103 ∧ x103 < lenI a0.path)).bind fun _ => ((r15_Good (getI a0.path x103)).bind fun t122 => (if (!t122) = true then some (.inr (.inl (([] : Str), (1 : Int)))) else ((r15_Write (getI a0.path x103)).bind fun t129 => ((req (List.length x104 + List.length t129 ≤ LIM)).bind fun _ => some (.inl ((wrap64 (x103 + (1 : Int))), (x104 ++ t129)))))))) else some (.inr (.inr (x103, x104))))

def r18_Bytes_s3 (a0 : Proof) : (Int × Str) → Option ((Int × Str) ⊕ (Str × Int ⊕ (Int × Str)))
 | (x212, x213) => (if (decide (x212 < (lenI a0.path))) = true then ((req ((0 : Int) ≤ x212 ∧ x212 < lenI a0.path)).bind fun _ => ((r15_Good (getI a0.path x212)).bind fun t231 => (if (!t231) = true then some (.inr (.inl (([] : Str), (1 : Int)))) else ((r15_Write (getI a0.path x212)).bind fun t238 => ((req (List.length x213 + List.length t238 ≤ LIM)).bind fun _ => some (.inl ((wrap64 (x212 + (1 : Int))), (x213 ++ t238)))))))) else some (.inr (.inr (x212, x213))))

def r18_Bytes  (a0 : Proof) : Option (Str × Int) :=
 ((r02_Number (max (0 : Int) a0.end_)).bind fun t7 => (if (a0.end_ == (0 : Int)) = true then (if (decide ((256 : Int) < (lenI a0.path))) = true then some (([] : Str), (2 : Int)) else ((r02_Number (lenI a0.path)).bind fun t21 => ((req (List.length t7 + List.length t21 ≤ LIM)).bind fun _ => ((iter (r18_Bytes_s1 a0) ((0 : Int), (t7 ++ t21))).bind fun b34 => (match b34 with | .inl r₀ => some r₀ | .inr (x31, x32) => some (x32, (0 : Int))))))) else (if (a0.end_ == (1 : Int)) = true then ((if (decide (a0.leaf.at_ < (0 : Int))) = true then some true else some (decide ((1073741824 : Int) < a0.leaf.at_))).bind fun b70 => (if b70 = true then some (([] : Str), (1 : Int)) else ((r15_LeafText a0.leaf).bind fun t77 => ((r02_Text t77).bind fun t82 => ((req (List.length t7 + List.length t82 ≤ LIM)).bind fun _ => (if (decide ((256 : Int) < (lenI a0.path))) = true then some (([] : Str), (2 : Int)) else ((r02_Number (lenI a0.path)).bind fun t93 => ((req (List.length (t7 ++ t82) + List.length t93 ≤ LIM)).bind fun _ => ((iter (r18_Bytes_s2 a0) ((0 : Int), ((t7 ++ t82) ++ t93))).bind fun b106 => (match b106 with | .inl r₀ => some r₀ | .inr (x103, x104) => some (x104, (0 : Int)))))))))))) else (if (a0.end_ == (2 : Int)) = true then ((r15_Check a0.a a0.b).bind fun t142 => (if (t142 != (0 : Int)) = true then some (([] : Str), t142) else ((r02_Flag true).bind fun t150 => ((r15_Write a0.a).bind fun t156 => ((req (List.length t150 + List.length t156 ≤ LIM)).bind fun _ => ((r15_Write a0.b).bind fun t163 => ((req (List.length (t150 ++ t156) + List.length t163 ≤ LIM)).bind fun _ => ((r02_Text ((t150 ++ t156) ++ t163)).bind fun t170 => ((req (List.length t7 + List.length t170 ≤ LIM)).bind fun _ => (if (decide ((256 : Int) < (lenI a0.path))) = true then some (([] : Str), (2 : Int)) else ((r02_Number (lenI a0.path)).bind fun t202 => ((req (List.length (t7 ++ t170) + List.length t202 ≤ LIM)).bind fun _ => ((iter (r18_Bytes_s3 a0) ((0 : Int), ((t7 ++ t170) ++ t202))).bind fun b215 => (match b215 with | .inl r₀ => some r₀ | .inr (x212, x213) => some (x213, (0 : Int)))))))))))))))) else some (([] : Str), (1 : Int))))))

theorem r18_Bytes_ok {S : Hp} (a0 : Proof) {v1 : Value} (q2 : Sls S v1 a0.path) {r : Str × Int} (h : r18_Bytes a0 = some r) : Fn Tryz.prog 37 [aggV [sV (.int .i64 a0.end_), sL a0.leaf.label, sL a0.leaf.value, sV (.int .i64 a0.leaf.at_), sV (.int .i64 a0.a.len), sL a0.a.bits, sL a0.a.sum, sV (.int .i64 a0.a.at_), sV (.int .i64 a0.b.len), sL a0.b.bits, sL a0.b.sum, sV (.int .i64 a0.b.at_), sV v1]] S (fun v S' => v = .tuple #[strV r.1, .int .i64 r.2]) := by
 unfold r18_Bytes at h
 refine fo [.tmp 2, .tmp 3] 82 Tryz.func37 Tryz.ntmps37 (fun o F Q hQ hN hret => ?_)
 refine sr (fun _ hK3 => ?_)
 refine st (OS.boxA (by decide) rfl (fun ad4 => ?_))
 refine an ?_
 refine an ?_
 refine nt hK3 ?_
 refine sr (fun _ hK6 => ?_)
 refine vl (Y.fieldAddr 0 rfl fld48_0 rfl) ?_
 refine lv 0 0 one3 ?_
 refine vl (Y.maxI rfl rfl) ?_
 obtain ⟨t7, wt7, h⟩ := bind_some' h
 refine st (cl fb107 (r02_Number_ok (max (0 : Int) a0.end_) wt7) (fun v8 S9 e10 z11 => ?_))
 replace q2 := q2.up e10
 obtain rfl := z11
 refine an ?_
 refine nt hK6 ?_
 refine G.seq (fun _ hK12 => ?_)
 refine sr (fun _ hK13 => ?_)
 refine vl (Y.fieldAddr 0 rfl fld48_0 rfl) ?_
 refine lv 0 0 one3 ?_
 refine nt hK13 ?_
 refine G.block ?_
 refine sr (fun _ hK14 => ?_)
 refine vl (Y.eqI rfl rfl) ?_
 refine an ?_
 refine nt hK14 ?_
 refine G.cond _ rfl (fun c15 => ?_) (fun c15 => ?_)
 ·replace h := ite_t c15 h
  refine G.skip ?_
  refine GX.normal_block ?_
  refine GX.then hK12 ?_
  refine G.seq (fun _ hK16 => ?_)
  refine sr (fun _ hK17 => ?_)
  refine vl (Y.fieldAddr 198 rfl fld48_4 rfl) ?_
  refine lv 0 12 one46 ?_
  refine vl (Y.lenS rfl q2 slc46) ?_
  refine vl (Y.gtI rfl rfl) ?_
  refine nt hK17 ?_
  refine G.cond _ rfl (fun c18 => ?_) (fun c18 => ?_)
  ·replace h := ite_t c18 h
   refine sr (fun _ hK19 => ?_)
   refine an ?_
   refine an ?_
   refine nt hK19 ?_
   refine G.ret ?_
   obtain rfl := Option.some.inj h
   exact hret _ _ _ _ 1 e10 (.cons (.tmp rfl) (.cons (.tmp rfl) .nil)) rfl rfl
  replace h := ite_f c18 h
  refine sk hK16 ?_
  refine sr (fun _ hK20 => ?_)
  refine mv ?_
  refine vl (Y.fieldAddr 198 rfl fld48_4 rfl) ?_
  refine lv 0 12 one46 ?_
  refine vl (Y.lenS rfl q2 slc46) ?_
  obtain ⟨t21, wt21, h⟩ := bind_some' h
  refine st (cl fb107 (r02_Number_ok (lenI a0.path) wt21) (fun v22 S23 e24 z25 => ?_))
  replace q2 := q2.up e24
  obtain rfl := z25
  obtain ⟨g26, h⟩ := req_bind h
  refine vl (Y.addStr (a := t7) (b := t21) rfl rfl g26) ?_
  refine an ?_
  refine nt hK20 ?_
  refine G.seq (fun _ hK27 => ?_)
  refine sr (fun _ hK28 => ?_)
  refine vl (Y.fieldAddr 198 rfl fld48_4 rfl) ?_
  refine lv 0 12 one46 ?_
  refine vl (Y.lenS rfl q2 slc46) ?_
  refine mv ?_
  refine nt hK28 ?_
  refine G.block ?_
  obtain ⟨b34, wb34, ho35⟩ := bind_some' h
  refine G.keep [69, 68, 67, 4] rfl ?_
  refine G.loopK (r18_Bytes_s1 a0) (fun s₀ E' S' L' => match s₀ with | (x31, x32) => S23.le S' ∧ E' = [(69, .int .i64 x31), (68, .int .i64 (lenI a0.path)), (67, v1), (4, strV x32)] ∧ Blk ad4 [sV (.int .i64 a0.end_), sL a0.leaf.label, sL a0.leaf.value, sV (.int .i64 a0.leaf.at_), sV (.int .i64 a0.a.len), sL a0.a.bits, sL a0.a.sum, sV (.int .i64 a0.a.at_), sV (.int .i64 a0.b.len), sL a0.b.bits, sL a0.b.sum, sV (.int .i64 a0.b.at_), sV v1] :: F = L') b34 1 (fun E₀ S₀ L₀ => ∃ (x31 : Int) (x32 : Str), S23.le S₀ ∧ b34 = .inr (x31, x32) ∧ E₀ = [(4, strV x32)] ∧ Blk ad4 [sV (.int .i64 a0.end_), sL a0.leaf.label, sL a0.leaf.value, sV (.int .i64 a0.leaf.at_), sV (.int .i64 a0.a.len), sL a0.a.bits, sL a0.a.sum, sV (.int .i64 a0.a.at_), sV (.int .i64 a0.b.len), sL a0.b.bits, sL a0.b.sum, sV (.int .i64 a0.b.at_), sV v1] :: F = L₀) wb34 ?_ ?_ ?_
  ·rintro _ S63 _ ⟨x31, x32, e64, rfl, rfl, rfl⟩
   have h := ho35; clear ho35
   try dsimp only at h
   replace q2 := q2.up e64
   refine GX.exit_block ?_
   refine GX.then hK27 ?_
   refine sr (fun _ hK65 => ?_)
   refine mv ?_
   refine an ?_
   refine an ?_
   refine nt hK65 ?_
   refine G.ret ?_
   obtain rfl := Option.some.inj h
   exact hret _ _ _ _ 1 (l2 e10 (l2 e24 e64)) (.cons (.tmp rfl) (.cons (.tmp rfl) .nil)) rfl rfl
  ·exact ⟨Hp.le_refl _, rfl, rfl⟩
  rintro ⟨x31, x32⟩ _ S29 _ ⟨e30, rfl, rfl⟩ out1 h hf1 K1 hK1 hx33
  rw [r18_Bytes_s1] at h
  replace q2 := q2.up e30
  refine sr (fun _ hK36 => ?_)
  refine vl (Y.ltI rfl rfl) ?_
  refine nt hK36 ?_
  refine G.seq (fun _ hK37 => ?_)
  refine G.cond _ rfl (fun c38 => ?_) (fun c38 => ?_)
  ·replace h := ite_t c38 h
   refine sk hK37 ?_
   refine G.seq (fun _ hK39 => ?_)
   refine G.block ?_
   refine sr (fun _ hK40 => ?_)
   obtain ⟨g41, h⟩ := req_bind h
   obtain ⟨ad42, p43, z44, q45⟩ := Sls.at q2 g41
   refine vl (Y.idxS rfl z44 rfl slc46 g41) ?_
   refine vl (Y.loadS [sV (.int .i64 ((getI a0.path x31).len)), sL ((getI a0.path x31).bits), sL ((getI a0.path x31).sum), sV (.int .i64 ((getI a0.path x31).at_))] rfl (At.part q45 0 4 _ rfl rfl) row45 (by kernel_rfl)) ?_
   refine st (OS.alloc _ (by decide) zero45 (fun ad46 => ?_))
   refine sf 0 4 [sV (.int .i64 ((getI a0.path x31).len)), sL ((getI a0.path x31).bits), sL ((getI a0.path x31).sum), sV (.int .i64 ((getI a0.path x31).at_))] (aggV_cells _) (oI (oL (oL (oI oN)))) size45 ?_
   refine nt hK40 ?_
   refine G.seq (fun _ hK48 => ?_)
   refine sr (fun _ hK49 => ?_)
   refine lb 0 0 4 [sV (.int .i64 ((getI a0.path x31).len)), sL ((getI a0.path x31).bits), sL ((getI a0.path x31).sum), sV (.int .i64 ((getI a0.path x31).at_))] row45 ?_
   obtain ⟨t50, wt50, h⟩ := bind_some' h
   refine st (cl fb100 (r15_Good_ok (getI a0.path x31) wt50) (fun v51 S52 e53 z54 => ?_))
   replace q2 := q2.up e53
   replace q45 := q45.up e53
   obtain rfl := z54
   refine vl (Y.not rfl) ?_
   refine nt hK49 ?_
   refine G.cond _ rfl (fun c55 => ?_) (fun c55 => ?_)
   ·replace h := ite_t c55 h
    refine sr (fun _ hK56 => ?_)
    refine an ?_
    refine an ?_
    refine nt hK56 ?_
    refine G.ret ?_
    obtain rfl := Option.some.inj h
    obtain rfl := hf1 _ rfl
    have h := ho35
    try dsimp only at h
    obtain rfl := Option.some.inj h
    exact hret _ _ _ _ 2 (l2 e10 (l2 e24 (l2 e30 e53))) (.cons (.tmp rfl) (.cons (.tmp rfl) .nil)) rfl rfl
   replace h := ite_f c55 h
   refine sk hK48 ?_
   refine G.region ?_
   refine mv ?_
   refine lb 0 0 4 [sV (.int .i64 ((getI a0.path x31).len)), sL ((getI a0.path x31).bits), sL ((getI a0.path x31).sum), sV (.int .i64 ((getI a0.path x31).at_))] row45 ?_
   obtain ⟨t57, wt57, h⟩ := bind_some' h
   refine st (cl fb111 (r15_Write_ok (getI a0.path x31) wt57) (fun v58 S59 e60 z61 => ?_))
   replace q2 := q2.up e60
   replace q45 := q45.up e60
   obtain rfl := z61
   obtain ⟨g62, h⟩ := req_bind h
   refine vl (Y.addStr (a := x32) (b := t57) rfl rfl g62) ?_
   refine an ?_
   refine GO.nil ?_
   refine GX.normal_block ?_
   refine GX.then hK39 ?_
   refine G.region ?_
   refine vl (Y.addI rfl rfl) ?_
   refine mv ?_
   refine GO.nil ?_
   obtain rfl := Option.some.inj h
   refine GX.keep [69, 68, 67, 4] rfl ?_
   refine GX.less 1 rfl ?_
   exact hK1 _ _ _ _ rfl ⟨(l2 e30 (l2 e53 e60)), rfl, rfl⟩
  replace h := ite_f c38 h
  refine G.exit ?_
  refine GX.exit_then ?_
  obtain rfl := Option.some.inj h
  refine GX.keep [4] rfl ?_
  exact hx33 _ _ _ ⟨_, _, e30, (hf1 _ rfl).symm, rfl, rfl⟩
 replace h := ite_f c15 h
 refine sr (fun _ hK66 => ?_)
 refine vl (Y.eqI rfl rfl) ?_
 refine an ?_
 refine nt hK66 ?_
 refine G.cond _ rfl (fun c67 => ?_) (fun c67 => ?_)
 ·replace h := ite_t c67 h
  refine G.seq (fun _ hK68 => ?_)
  refine sr (fun _ hK69 => ?_)
  refine vl (Y.fieldAddr 1 rfl fld48_1 rfl) ?_
  refine vl (Y.fieldAddr 65 rfl fld41_2 rfl) ?_
  refine lv 0 3 one3 ?_
  refine vl (Y.ltI rfl rfl) ?_
  refine mv ?_
  obtain ⟨b70, wb70, h⟩ := bind_some' h
  refine GO.joinB 5 27 (b70 = ·) (fun K72 hK72 => ?_) ?_
  ·replace h := wb70
   rcases Bool.eq_false_or_eq_true (decide (a0.leaf.at_ < (0 : Int))) with c71 | c71
   ·replace h := ite_t c71 h
    refine gf 22 c71 ?_
    refine gf 22 c71 ?_
    refine gf 22 c71 ?_
    refine gf 22 c71 ?_
    refine vl (Y.pickT _ c71 rfl rfl) ?_
    refine GO.nil ?_
    refine p2 (p2 (p2 (p2 ?_)))
    exact hK72 _ _ l0 (Option.some.inj h).symm
   replace h := ite_f c71 h
   refine gv 22 c71 (Y.fieldAddr 1 rfl fld48_1 rfl) ?_
   refine gv 22 c71 (Y.fieldAddr 65 rfl fld41_2 rfl) ?_
   refine gv 22 c71 (Y.loadV 0  3 _ rfl rfl rfl rfl one3) ?_
   refine gv 22 c71 (Y.gtI rfl rfl) ?_
   refine vl (Y.pickF _ c71 rfl rfl) ?_
   refine GO.nil ?_
   refine p2 (p2 (p2 (p2 ?_)))
   exact hK72 _ _ l0 (Option.some.inj h).symm
  rintro _ S73 e74 rfl
  replace q2 := q2.up e74
  refine nt hK69 ?_
  refine G.cond _ rfl (fun c75 => ?_) (fun c75 => ?_)
  ·replace h := ite_t c75 h
   refine sr (fun _ hK76 => ?_)
   refine an ?_
   refine an ?_
   refine nt hK76 ?_
   refine G.ret ?_
   obtain rfl := Option.some.inj h
   exact hret _ _ _ _ 1 (l2 e10 e74) (.cons (.tmp rfl) (.cons (.tmp rfl) .nil)) rfl rfl
  replace h := ite_f c75 h
  refine sk hK68 ?_
  refine G.region ?_
  refine mv ?_
  refine vl (Y.fieldAddr 1 rfl fld48_1 rfl) ?_
  refine lb 0 1 3 [sL a0.leaf.label, sL a0.leaf.value, sV (.int .i64 a0.leaf.at_)] row41 ?_
  obtain ⟨t77, wt77, h⟩ := bind_some' h
  refine st (cl fb109 (r15_LeafText_ok a0.leaf wt77) (fun v78 S79 e80 z81 => ?_))
  replace q2 := q2.up e80
  obtain rfl := z81
  obtain ⟨t82, wt82, h⟩ := bind_some' h
  refine st (cl fb108 (r02_Text_ok t77 wt82) (fun v83 S84 e85 z86 => ?_))
  replace q2 := q2.up e85
  obtain rfl := z86
  obtain ⟨g87, h⟩ := req_bind h
  refine vl (Y.addStr (a := t7) (b := t82) rfl rfl g87) ?_
  refine an ?_
  refine GO.nil ?_
  refine GX.normal_block ?_
  refine GX.then hK12 ?_
  refine G.seq (fun _ hK88 => ?_)
  refine sr (fun _ hK89 => ?_)
  refine vl (Y.fieldAddr 198 rfl fld48_4 rfl) ?_
  refine lv 0 12 one46 ?_
  refine vl (Y.lenS rfl q2 slc46) ?_
  refine vl (Y.gtI rfl rfl) ?_
  refine nt hK89 ?_
  refine G.cond _ rfl (fun c90 => ?_) (fun c90 => ?_)
  ·replace h := ite_t c90 h
   refine sr (fun _ hK91 => ?_)
   refine an ?_
   refine an ?_
   refine nt hK91 ?_
   refine G.ret ?_
   obtain rfl := Option.some.inj h
   exact hret _ _ _ _ 1 (l2 e10 (l2 e74 (l2 e80 e85))) (.cons (.tmp rfl) (.cons (.tmp rfl) .nil)) rfl rfl
  replace h := ite_f c90 h
  refine sk hK88 ?_
  refine sr (fun _ hK92 => ?_)
  refine mv ?_
  refine vl (Y.fieldAddr 198 rfl fld48_4 rfl) ?_
  refine lv 0 12 one46 ?_
  refine vl (Y.lenS rfl q2 slc46) ?_
  obtain ⟨t93, wt93, h⟩ := bind_some' h
  refine st (cl fb107 (r02_Number_ok (lenI a0.path) wt93) (fun v94 S95 e96 z97 => ?_))
  replace q2 := q2.up e96
  obtain rfl := z97
  obtain ⟨g98, h⟩ := req_bind h
  refine vl (Y.addStr (a := (t7 ++ t82)) (b := t93) rfl rfl g98) ?_
  refine an ?_
  refine nt hK92 ?_
  refine G.seq (fun _ hK99 => ?_)
  refine sr (fun _ hK100 => ?_)
  refine vl (Y.fieldAddr 198 rfl fld48_4 rfl) ?_
  refine lv 0 12 one46 ?_
  refine vl (Y.lenS rfl q2 slc46) ?_
  refine mv ?_
  refine nt hK100 ?_
  refine G.block ?_
  obtain ⟨b106, wb106, ho107⟩ := bind_some' h
  refine G.keep [69, 68, 67, 4] rfl ?_
  refine G.loopK (r18_Bytes_s2 a0) (fun s₀ E' S' L' => match s₀ with | (x103, x104) => S95.le S' ∧ E' = [(69, .int .i64 x103), (68, .int .i64 (lenI a0.path)), (67, v1), (4, strV x104)] ∧ Blk ad4 [sV (.int .i64 a0.end_), sL a0.leaf.label, sL a0.leaf.value, sV (.int .i64 a0.leaf.at_), sV (.int .i64 a0.a.len), sL a0.a.bits, sL a0.a.sum, sV (.int .i64 a0.a.at_), sV (.int .i64 a0.b.len), sL a0.b.bits, sL a0.b.sum, sV (.int .i64 a0.b.at_), sV v1] :: F = L') b106 1 (fun E₀ S₀ L₀ => ∃ (x103 : Int) (x104 : Str), S95.le S₀ ∧ b106 = .inr (x103, x104) ∧ E₀ = [(4, strV x104)] ∧ Blk ad4 [sV (.int .i64 a0.end_), sL a0.leaf.label, sL a0.leaf.value, sV (.int .i64 a0.leaf.at_), sV (.int .i64 a0.a.len), sL a0.a.bits, sL a0.a.sum, sV (.int .i64 a0.a.at_), sV (.int .i64 a0.b.len), sL a0.b.bits, sL a0.b.sum, sV (.int .i64 a0.b.at_), sV v1] :: F = L₀) wb106 ?_ ?_ ?_
  ·rintro _ S135 _ ⟨x103, x104, e136, rfl, rfl, rfl⟩
   have h := ho107; clear ho107
   try dsimp only at h
   replace q2 := q2.up e136
   refine GX.exit_block ?_
   refine GX.then hK99 ?_
   refine sr (fun _ hK137 => ?_)
   refine mv ?_
   refine an ?_
   refine an ?_
   refine nt hK137 ?_
   refine G.ret ?_
   obtain rfl := Option.some.inj h
   exact hret _ _ _ _ 1 (l2 e10 (l2 e74 (l2 e80 (l2 e85 (l2 e96 e136))))) (.cons (.tmp rfl) (.cons (.tmp rfl) .nil)) rfl rfl
  ·exact ⟨Hp.le_refl _, rfl, rfl⟩
  rintro ⟨x103, x104⟩ _ S101 _ ⟨e102, rfl, rfl⟩ out2 h hf2 K2 hK2 hx105
  rw [r18_Bytes_s2] at h
  replace q2 := q2.up e102
  refine sr (fun _ hK108 => ?_)
  refine vl (Y.ltI rfl rfl) ?_
  refine nt hK108 ?_
  refine G.seq (fun _ hK109 => ?_)
  refine G.cond _ rfl (fun c110 => ?_) (fun c110 => ?_)
  ·replace h := ite_t c110 h
   refine sk hK109 ?_
   refine G.seq (fun _ hK111 => ?_)
   refine G.block ?_
   refine sr (fun _ hK112 => ?_)
   obtain ⟨g113, h⟩ := req_bind h
   obtain ⟨ad114, p115, z116, q117⟩ := Sls.at q2 g113
   refine vl (Y.idxS rfl z116 rfl slc46 g113) ?_
   refine vl (Y.loadS [sV (.int .i64 ((getI a0.path x103).len)), sL ((getI a0.path x103).bits), sL ((getI a0.path x103).sum), sV (.int .i64 ((getI a0.path x103).at_))] rfl (At.part q117 0 4 _ rfl rfl) row45 (by kernel_rfl)) ?_
   refine st (OS.alloc _ (by decide) zero45 (fun ad118 => ?_))
   refine sf 0 4 [sV (.int .i64 ((getI a0.path x103).len)), sL ((getI a0.path x103).bits), sL ((getI a0.path x103).sum), sV (.int .i64 ((getI a0.path x103).at_))] (aggV_cells _) (oI (oL (oL (oI oN)))) size45 ?_
   refine nt hK112 ?_
   refine G.seq (fun _ hK120 => ?_)
   refine sr (fun _ hK121 => ?_)
   refine lb 0 0 4 [sV (.int .i64 ((getI a0.path x103).len)), sL ((getI a0.path x103).bits), sL ((getI a0.path x103).sum), sV (.int .i64 ((getI a0.path x103).at_))] row45 ?_
   obtain ⟨t122, wt122, h⟩ := bind_some' h
   refine st (cl fb100 (r15_Good_ok (getI a0.path x103) wt122) (fun v123 S124 e125 z126 => ?_))
   replace q2 := q2.up e125
   replace q117 := q117.up e125
   obtain rfl := z126
   refine vl (Y.not rfl) ?_
   refine nt hK121 ?_
   refine G.cond _ rfl (fun c127 => ?_) (fun c127 => ?_)
   ·replace h := ite_t c127 h
    refine sr (fun _ hK128 => ?_)
    refine an ?_
    refine an ?_
    refine nt hK128 ?_
    refine G.ret ?_
    obtain rfl := Option.some.inj h
    obtain rfl := hf2 _ rfl
    have h := ho107
    try dsimp only at h
    obtain rfl := Option.some.inj h
    exact hret _ _ _ _ 2 (l2 e10 (l2 e74 (l2 e80 (l2 e85 (l2 e96 (l2 e102 e125)))))) (.cons (.tmp rfl) (.cons (.tmp rfl) .nil)) rfl rfl
   replace h := ite_f c127 h
   refine sk hK120 ?_
   refine G.region ?_
   refine mv ?_
   refine lb 0 0 4 [sV (.int .i64 ((getI a0.path x103).len)), sL ((getI a0.path x103).bits), sL ((getI a0.path x103).sum), sV (.int .i64 ((getI a0.path x103).at_))] row45 ?_
   obtain ⟨t129, wt129, h⟩ := bind_some' h
   refine st (cl fb111 (r15_Write_ok (getI a0.path x103) wt129) (fun v130 S131 e132 z133 => ?_))
   replace q2 := q2.up e132
   replace q117 := q117.up e132
   obtain rfl := z133
   obtain ⟨g134, h⟩ := req_bind h
   refine vl (Y.addStr (a := x104) (b := t129) rfl rfl g134) ?_
   refine an ?_
   refine GO.nil ?_
   refine GX.normal_block ?_
   refine GX.then hK111 ?_
   refine G.region ?_
   refine vl (Y.addI rfl rfl) ?_
   refine mv ?_
   refine GO.nil ?_
   obtain rfl := Option.some.inj h
   refine GX.keep [69, 68, 67, 4] rfl ?_
   refine GX.less 1 rfl ?_
   exact hK2 _ _ _ _ rfl ⟨(l2 e102 (l2 e125 e132)), rfl, rfl⟩
  replace h := ite_f c110 h
  refine G.exit ?_
  refine GX.exit_then ?_
  obtain rfl := Option.some.inj h
  refine GX.keep [4] rfl ?_
  exact hx105 _ _ _ ⟨_, _, e102, (hf2 _ rfl).symm, rfl, rfl⟩
 replace h := ite_f c67 h
 refine sr (fun _ hK138 => ?_)
 refine vl (Y.eqI rfl rfl) ?_
 refine an ?_
 refine nt hK138 ?_
 refine G.cond _ rfl (fun c139 => ?_) (fun c139 => ?_)
 ·replace h := ite_t c139 h
  refine G.seq (fun _ hK140 => ?_)
  refine sr (fun _ hK141 => ?_)
  refine vl (Y.fieldAddr 66 rfl fld48_2 rfl) ?_
  refine lb 0 4 4 [sV (.int .i64 a0.a.len), sL a0.a.bits, sL a0.a.sum, sV (.int .i64 a0.a.at_)] row45 ?_
  refine vl (Y.fieldAddr 132 rfl fld48_3 rfl) ?_
  refine lb 0 8 4 [sV (.int .i64 a0.b.len), sL a0.b.bits, sL a0.b.sum, sV (.int .i64 a0.b.at_)] row45 ?_
  obtain ⟨t142, wt142, h⟩ := bind_some' h
  refine st (cl fb58 (r15_Check_ok a0.a a0.b wt142) (fun v143 S144 e145 z146 => ?_))
  replace q2 := q2.up e145
  obtain rfl := z146
  refine an ?_
  refine nt hK141 ?_
  refine sr (fun _ hK147 => ?_)
  refine mv ?_
  refine vl (Y.neI rfl rfl) ?_
  refine nt hK147 ?_
  refine G.cond _ rfl (fun c148 => ?_) (fun c148 => ?_)
  ·replace h := ite_t c148 h
   refine sr (fun _ hK149 => ?_)
   refine mv ?_
   refine an ?_
   refine an ?_
   refine nt hK149 ?_
   refine G.ret ?_
   obtain rfl := Option.some.inj h
   exact hret _ _ _ _ 1 (l2 e10 e145) (.cons (.tmp rfl) (.cons (.tmp rfl) .nil)) rfl rfl
  replace h := ite_f c148 h
  refine sk hK140 ?_
  obtain ⟨t150, wt150, h⟩ := bind_some' h
  obtain ⟨t156, wt156, h⟩ := bind_some' h
  obtain ⟨g162, h⟩ := req_bind h
  obtain ⟨t163, wt163, h⟩ := bind_some' h
  obtain ⟨g169, h⟩ := req_bind h
  obtain ⟨t170, wt170, h⟩ := bind_some' h
  obtain ⟨g176, h⟩ := req_bind h
  refine G.drawN 13 mixed (by kernel_rfl) ?_
  refine tn 0 rfl hQ (fun _ _ _ => Y.move rfl) ?_
  refine tn 2 rfl hQ (fun _ _ _ => Y.fieldAddr 66 rfl fld48_2 rfl) ?_
  refine tn 3 rfl hQ (fun S₀ X₀ e₀ => Y.loadB (X₀.length + 0)  4 4 [sV (.int .i64 a0.a.len), sL a0.a.bits, sL a0.a.sum, sV (.int .i64 a0.a.at_)] rfl (Lk rfl) rfl rfl row45 (by kernel_rfl)) ?_
  refine tn 6 rfl hQ (fun _ _ _ => Y.fieldAddr 132 rfl fld48_3 rfl) ?_
  refine tn 7 rfl hQ (fun S₀ X₀ e₀ => Y.loadB (X₀.length + 0)  8 4 [sV (.int .i64 a0.b.len), sL a0.b.bits, sL a0.b.sum, sV (.int .i64 a0.b.at_)] rfl (Lk rfl) rfl rfl row45 (by kernel_rfl)) ?_
  refine g1 1 ?_
  refine n1 rfl (cl fb110 (r02_Flag_ok true wt150) (fun v177 S178 e179 z180 => ⟨⟨[], .refl, e179⟩, ?_⟩))
  have q181 := q2.up e179
  obtain rfl := z180
  refine g1 4 ?_
  refine n1 rfl (cl fb111 (r15_Write_ok a0.a wt156) (fun v182 S183 e184 z185 => ⟨⟨[], .refl, (l2 e179 e184)⟩, ?_⟩))
  have q186 := q181.up e184
  obtain rfl := z185
  refine tn 5 rfl hQ (fun _ _ _ => Y.addStr (a := t150) (b := t156) rfl rfl g162) ?_
  refine g1 8 ?_
  refine n1 rfl (cl fb111 (r15_Write_ok a0.b wt163) (fun v187 S188 e189 z190 => ⟨⟨[], .refl, (l2 e179 (l2 e184 e189))⟩, ?_⟩))
  have q191 := q186.up e189
  obtain rfl := z190
  refine tn 9 rfl hQ (fun _ _ _ => Y.addStr (a := (t150 ++ t156)) (b := t163) rfl rfl g169) ?_
  refine g1 10 ?_
  refine n1 rfl (cl fb108 (r02_Text_ok ((t150 ++ t156) ++ t163) wt170) (fun v192 S193 e194 z195 => ⟨⟨[], .refl, (l2 e179 (l2 e184 (l2 e189 e194)))⟩, ?_⟩))
  have q196 := q191.up e194
  obtain rfl := z195
  refine tn 11 rfl hQ (fun _ _ _ => Y.addStr (a := t7) (b := t170) rfl rfl g176) ?_
  refine tn 12 rfl hQ (fun _ _ _ => Y.assign rfl) ?_
  refine dn ?_
  refine GX.normal_block ?_
  refine GX.then hK12 ?_
  refine G.seq (fun _ hK197 => ?_)
  refine sr (fun _ hK198 => ?_)
  refine vl (Y.fieldAddr 198 rfl fld48_4 rfl) ?_
  refine lv 0 12 one46 ?_
  refine vl (Y.lenS rfl q196 slc46) ?_
  refine vl (Y.gtI rfl rfl) ?_
  refine nt hK198 ?_
  refine G.cond _ rfl (fun c199 => ?_) (fun c199 => ?_)
  ·replace h := ite_t c199 h
   refine sr (fun _ hK200 => ?_)
   refine an ?_
   refine an ?_
   refine nt hK200 ?_
   refine G.ret ?_
   obtain rfl := Option.some.inj h
   exact hret _ _ _ _ 1 (l2 e10 (l2 e145 (l2 e179 (l2 e184 (l2 e189 e194))))) (.cons (.tmp rfl) (.cons (.tmp rfl) .nil)) rfl rfl
  replace h := ite_f c199 h
  refine sk hK197 ?_
  refine sr (fun _ hK201 => ?_)
  refine mv ?_
  refine vl (Y.fieldAddr 198 rfl fld48_4 rfl) ?_
  refine lv 0 12 one46 ?_
  refine vl (Y.lenS rfl q196 slc46) ?_
  obtain ⟨t202, wt202, h⟩ := bind_some' h
  refine st (cl fb107 (r02_Number_ok (lenI a0.path) wt202) (fun v203 S204 e205 z206 => ?_))
  replace q196 := q196.up e205
  obtain rfl := z206
  obtain ⟨g207, h⟩ := req_bind h
  refine vl (Y.addStr (a := (t7 ++ t170)) (b := t202) rfl rfl g207) ?_
  refine an ?_
  refine nt hK201 ?_
  refine G.seq (fun _ hK208 => ?_)
  refine sr (fun _ hK209 => ?_)
  refine vl (Y.fieldAddr 198 rfl fld48_4 rfl) ?_
  refine lv 0 12 one46 ?_
  refine vl (Y.lenS rfl q196 slc46) ?_
  refine mv ?_
  refine nt hK209 ?_
  refine G.block ?_
  obtain ⟨b215, wb215, ho216⟩ := bind_some' h
  refine G.keep [69, 68, 67, 4] rfl ?_
  refine G.loopK (r18_Bytes_s3 a0) (fun s₀ E' S' L' => match s₀ with | (x212, x213) => S204.le S' ∧ E' = [(69, .int .i64 x212), (68, .int .i64 (lenI a0.path)), (67, v1), (4, strV x213)] ∧ Blk ad4 [sV (.int .i64 a0.end_), sL a0.leaf.label, sL a0.leaf.value, sV (.int .i64 a0.leaf.at_), sV (.int .i64 a0.a.len), sL a0.a.bits, sL a0.a.sum, sV (.int .i64 a0.a.at_), sV (.int .i64 a0.b.len), sL a0.b.bits, sL a0.b.sum, sV (.int .i64 a0.b.at_), sV v1] :: F = L') b215 1 (fun E₀ S₀ L₀ => ∃ (x212 : Int) (x213 : Str), S204.le S₀ ∧ b215 = .inr (x212, x213) ∧ E₀ = [(4, strV x213)] ∧ Blk ad4 [sV (.int .i64 a0.end_), sL a0.leaf.label, sL a0.leaf.value, sV (.int .i64 a0.leaf.at_), sV (.int .i64 a0.a.len), sL a0.a.bits, sL a0.a.sum, sV (.int .i64 a0.a.at_), sV (.int .i64 a0.b.len), sL a0.b.bits, sL a0.b.sum, sV (.int .i64 a0.b.at_), sV v1] :: F = L₀) wb215 ?_ ?_ ?_
  ·rintro _ S244 _ ⟨x212, x213, e245, rfl, rfl, rfl⟩
   have h := ho216; clear ho216
   try dsimp only at h
   replace q196 := q196.up e245
   refine GX.exit_block ?_
   refine GX.then hK208 ?_
   refine sr (fun _ hK246 => ?_)
   refine mv ?_
   refine an ?_
   refine an ?_
   refine nt hK246 ?_
   refine G.ret ?_
   obtain rfl := Option.some.inj h
   exact hret _ _ _ _ 1 (l2 e10 (l2 e145 (l2 e179 (l2 e184 (l2 e189 (l2 e194 (l2 e205 e245))))))) (.cons (.tmp rfl) (.cons (.tmp rfl) .nil)) rfl rfl
  ·exact ⟨Hp.le_refl _, rfl, rfl⟩
  rintro ⟨x212, x213⟩ _ S210 _ ⟨e211, rfl, rfl⟩ out3 h hf3 K3 hK3 hx214
  rw [r18_Bytes_s3] at h
  replace q196 := q196.up e211
  refine sr (fun _ hK217 => ?_)
  refine vl (Y.ltI rfl rfl) ?_
  refine nt hK217 ?_
  refine G.seq (fun _ hK218 => ?_)
  refine G.cond _ rfl (fun c219 => ?_) (fun c219 => ?_)
  ·replace h := ite_t c219 h
   refine sk hK218 ?_
   refine G.seq (fun _ hK220 => ?_)
   refine G.block ?_
   refine sr (fun _ hK221 => ?_)
   obtain ⟨g222, h⟩ := req_bind h
   obtain ⟨ad223, p224, z225, q226⟩ := Sls.at q196 g222
   refine vl (Y.idxS rfl z225 rfl slc46 g222) ?_
   refine vl (Y.loadS [sV (.int .i64 ((getI a0.path x212).len)), sL ((getI a0.path x212).bits), sL ((getI a0.path x212).sum), sV (.int .i64 ((getI a0.path x212).at_))] rfl (At.part q226 0 4 _ rfl rfl) row45 (by kernel_rfl)) ?_
   refine st (OS.alloc _ (by decide) zero45 (fun ad227 => ?_))
   refine sf 0 4 [sV (.int .i64 ((getI a0.path x212).len)), sL ((getI a0.path x212).bits), sL ((getI a0.path x212).sum), sV (.int .i64 ((getI a0.path x212).at_))] (aggV_cells _) (oI (oL (oL (oI oN)))) size45 ?_
   refine nt hK221 ?_
   refine G.seq (fun _ hK229 => ?_)
   refine sr (fun _ hK230 => ?_)
   refine lb 0 0 4 [sV (.int .i64 ((getI a0.path x212).len)), sL ((getI a0.path x212).bits), sL ((getI a0.path x212).sum), sV (.int .i64 ((getI a0.path x212).at_))] row45 ?_
   obtain ⟨t231, wt231, h⟩ := bind_some' h
   refine st (cl fb100 (r15_Good_ok (getI a0.path x212) wt231) (fun v232 S233 e234 z235 => ?_))
   replace q196 := q196.up e234
   replace q226 := q226.up e234
   obtain rfl := z235
   refine vl (Y.not rfl) ?_
   refine nt hK230 ?_
   refine G.cond _ rfl (fun c236 => ?_) (fun c236 => ?_)
   ·replace h := ite_t c236 h
    refine sr (fun _ hK237 => ?_)
    refine an ?_
    refine an ?_
    refine nt hK237 ?_
    refine G.ret ?_
    obtain rfl := Option.some.inj h
    obtain rfl := hf3 _ rfl
    have h := ho216
    try dsimp only at h
    obtain rfl := Option.some.inj h
    exact hret _ _ _ _ 2 (l2 e10 (l2 e145 (l2 e179 (l2 e184 (l2 e189 (l2 e194 (l2 e205 (l2 e211 e234)))))))) (.cons (.tmp rfl) (.cons (.tmp rfl) .nil)) rfl rfl
   replace h := ite_f c236 h
   refine sk hK229 ?_
   refine G.region ?_
   refine mv ?_
   refine lb 0 0 4 [sV (.int .i64 ((getI a0.path x212).len)), sL ((getI a0.path x212).bits), sL ((getI a0.path x212).sum), sV (.int .i64 ((getI a0.path x212).at_))] row45 ?_
   obtain ⟨t238, wt238, h⟩ := bind_some' h
   refine st (cl fb111 (r15_Write_ok (getI a0.path x212) wt238) (fun v239 S240 e241 z242 => ?_))
   replace q196 := q196.up e241
   replace q226 := q226.up e241
   obtain rfl := z242
   obtain ⟨g243, h⟩ := req_bind h
   refine vl (Y.addStr (a := x213) (b := t238) rfl rfl g243) ?_
   refine an ?_
   refine GO.nil ?_
   refine GX.normal_block ?_
   refine GX.then hK220 ?_
   refine G.region ?_
   refine vl (Y.addI rfl rfl) ?_
   refine mv ?_
   refine GO.nil ?_
   obtain rfl := Option.some.inj h
   refine GX.keep [69, 68, 67, 4] rfl ?_
   refine GX.less 1 rfl ?_
   exact hK3 _ _ _ _ rfl ⟨(l2 e211 (l2 e234 e241)), rfl, rfl⟩
  replace h := ite_f c219 h
  refine G.exit ?_
  refine GX.exit_then ?_
  obtain rfl := Option.some.inj h
  refine GX.keep [4] rfl ?_
  exact hx214 _ _ _ ⟨_, _, e211, (hf3 _ rfl).symm, rfl, rfl⟩
 replace h := ite_f c139 h
 refine sr (fun _ hK247 => ?_)
 refine an ?_
 refine an ?_
 refine nt hK247 ?_
 refine G.ret ?_
 obtain rfl := Option.some.inj h
 exact hret _ _ _ _ 1 e10 (.cons (.tmp rfl) (.cons (.tmp rfl) .nil)) rfl rfl

end
end Go.Ch
end
section
/- Functions of the program: what each comes to, proved. -/
set_option linter.unusedVariables false
set_option linter.unusedSimpArgs false
set_option maxRecDepth 100000
set_option maxHeartbeats 4000000
namespace Go.Ch
open Go.RowKit (wrap64)
open Go.Proofs
noncomputable section
/- (*chirograph/code.Writer).Text -/
def code_Writer_Text  (a0 : Wr) (a1 : Str) : Option Wr :=
 (if (decide ((65536 : Int) < (lenI a1))) = true then ((code_Writer_fail a0 (2 : Int)).bind fun t5 => some t5) else ((code_Writer_Number a0 (lenI a1)).bind fun t11 => ((req (List.length t11.b + List.length a1 ≤ LIM)).bind fun _ => some (⟨(t11.b ++ a1), t11.err⟩ : Wr))))

theorem code_Writer_Text_ok {S : Hp} (a0 : Wr) (a1 : Str) {b0 : Nat} {r : Wr} (h : code_Writer_Text a0 a1 = some r) : FnP Tryz.prog 104 [.pointer (some ⟨b0, 0, none⟩), strV a1] S (WrA b0 a0) (fun v S' A' => v = .tuple #[] ∧ A' = WrA b0 r) := by
 unfold code_Writer_Text at h
 refine Fn.ofP [] 22 Tryz.func104 rfl Tryz.ntmps104 (Nat.le_of_ble_eq_true rfl) rfl (fun o F Q hQ hN hret => ?_)
 refine G.seq (fun _ hK1 => ?_)
 refine sr (fun _ hK2 => ?_)
 refine mv ?_
 refine vl (Y.lenStr (v := a1) rfl sty9) ?_
 refine vl (Y.gtI rfl rfl) ?_
 refine nt hK2 ?_
 refine G.cond _ rfl (fun c3 => ?_) (fun c3 => ?_)
 ·replace h := ite_t c3 h
  refine sr (fun _ hK4 => ?_)
  refine mv ?_
  obtain ⟨t5, wt5, h⟩ := bind_some' h
  refine st (OS.callP 0 _ (by decide) rfl fb175 rfl (code_Writer_fail_ok a0 (2 : Int) wt5) (fun v6 S7 _ e8 z9 => ?_))
  obtain ⟨rfl, rfl⟩ := z9
  refine nt hK4 ?_
  refine G.ret ?_
  obtain rfl := Option.some.inj h
  exact hret _ _ _ _ _ 0 e8 .nil ⟨rfl, rfl⟩ rfl
 replace h := ite_f c3 h
 refine sk hK1 ?_
 refine sr (fun _ hK10 => ?_)
 refine mv ?_
 refine mv ?_
 refine vl (Y.lenStr (v := a1) rfl sty9) ?_
 obtain ⟨t11, wt11, h⟩ := bind_some' h
 refine st (OS.callP 0 _ (by decide) rfl fb102 rfl (code_Writer_Number_ok a0 (lenI a1) wt11) (fun v12 S13 _ e14 z15 => ?_))
 obtain ⟨rfl, rfl⟩ := z15
 refine nt hK10 ?_
 refine G.region ?_
 refine mv ?_
 refine mv ?_
 refine vl (Y.nilCheck rfl) ?_
 refine GO.openW 0 rfl (fun v16 => ?_)
 refine vl (Y.fieldAddr 0 rfl fld168_0 rfl) ?_
 refine lv 1 0 one102 ?_
 refine mv ?_
 obtain ⟨g18, h⟩ := req_bind h
 refine st (OS.append (xs := t11.b) (ys := a1) 0 (by decide) rfl rfl rfl strV.src el102 src9 g18 (fun v19 => ?_))
 refine vl (Y.nilCheck rfl) ?_
 refine vl (Y.fieldAddr 0 rfl fld168_0 rfl) ?_
 refine GO.rowOne 0 rfl (fun z20 => ?_)
 refine so 1 0 1 [sV v19, sV (.int .i64 t11.err)] (r := [sV v19]) (cells_one z20) (oV (z20) oN) size102 ?_
 refine GO.nil ?_
 refine GX.fall hN ?_
 refine GX.foldW 1 0 rfl rfl (by decide) ?_
 obtain rfl := Option.some.inj h
 exact hret _ _ _ _ _ 1 e14 .nil ⟨rfl, rfl⟩ rfl

end
end Go.Ch
end
