/- ProofChecks of layer 18 returns true for every input, and each argument reads behind the call as it read before. Part 4 of 6. No condition. -/
import Derived.Test.YtchjaknlegaegaaGreatPc2
section
/- Functions of the program: what each comes to, proved. -/
set_option linter.unusedVariables false
set_option linter.unusedSimpArgs false
set_option maxRecDepth 100000
set_option maxHeartbeats 4000000
namespace Go.Ch
open Go.RowKit (wrap64)
open Go.Proofs
noncomputable section
/- chirograph/chirographref18.Nodes -/
def r18_Nodes_s1 (a0 : Proof) (a1 : Lab) : (Int × (List Item) × (List Str)) → Option ((Int × (List Item) × (List Str)) ⊕ ((List Str) × (List Item) × Int ⊕ (Int × (List Item) × (List Str))))
 | (x66, x67, x69) => (if (decide (x66 < (lenI a0.path))) = true then ((req ((0 : Int) ≤ x66 ∧ x66 < lenI a0.path)).bind fun _ => ((req ((0 : Int) ≤ (wrap64 ((lenI x67) - (1 : Int))) ∧ (wrap64 ((lenI x67) - (1 : Int))) < lenI x67)).bind fun _ => ((r01_Order ((getI x67 (wrap64 ((lenI x67) - (1 : Int)))).bits) ((getI a0.path x66).bits)).bind fun t111 => (if (t111 == (1 : Int)) = true then ((r15_Check (getI a0.path x66) (getI x67 (wrap64 ((lenI x67) - (1 : Int))))).bind fun t119 => (if (t119 != (0 : Int)) = true then some (.inr (.inl ([], [], t119))) else ((r16_Inner (getI a0.path x66) (getI x67 (wrap64 ((lenI x67) - (1 : Int))))).bind fun t128 => (((r18_has t128 a1).bind fun t139 => (if (!t139) = true then some true else ((r01_Bit a1 t128.len).bind fun t151 => ((r01_Bit ((getI x67 (wrap64 ((lenI x67) - (1 : Int)))).bits) t128.len).bind fun t157 => some (t151 != t157))))).bind fun b138 => (if b138 = true then some (.inr (.inl ([], [], (11 : Int)))) else ((r15_InnerBytes (getI a0.path x66) (getI x67 (wrap64 ((lenI x67) - (1 : Int))))).bind fun t183 => ((req (List.length x69 + List.length ([t183] : List Str) ≤ LIM)).bind fun _ => ((req (List.length x67 + List.length ([t128] : List Item) ≤ LIM)).bind fun _ => some (.inl ((wrap64 (x66 + (1 : Int))), (x67 ++ ([t128] : List Item)), (x69 ++ ([t183] : List Str)))))))))))) else ((r15_Check (getI x67 (wrap64 ((lenI x67) - (1 : Int)))) (getI a0.path x66)).bind fun t198 => (if (t198 != (0 : Int)) = true then some (.inr (.inl ([], [], t198))) else ((r16_Inner (getI x67 (wrap64 ((lenI x67) - (1 : Int)))) (getI a0.path x66)).bind fun t207 => (((r18_has t207 a1).bind fun t218 => (if (!t218) = true then some true else ((r01_Bit a1 t207.len).bind fun t230 => ((r01_Bit ((getI x67 (wrap64 ((lenI x67) - (1 : Int)))).bits) t207.len).bind fun t236 => some (t230 != t236))))).bind fun b217 => (if b217 = true then some (.inr (.inl ([], [], (11 : Int)))) else ((r15_InnerBytes (getI x67 (wrap64 ((lenI x67) - (1 : Int)))) (getI a0.path x66)).bind fun t262 => ((req (List.length x69 + List.length ([t262] : List Str) ≤ LIM)).bind fun _ => ((req (List.length x67 + List.length ([t207] : List Item) ≤ LIM)).bind fun _ => some (.inl ((wrap64 (x66 + (1 : Int))), (x67 ++ ([t207] : List Item)), (x69 ++ ([t262] : List Str)))))))))))))))) else some (.inr (.inr (x66, x67, x69))))

def r18_Nodes_s2 (a0 : Proof) (a1 : Lab) : (Int × (List Item) × (List Str)) → Option ((Int × (List Item) × (List Str)) ⊕ ((List Str) × (List Item) × Int ⊕ (Int × (List Item) × (List Str))))
 | (x338, x339, x341) => (if (decide (x338 < (lenI a0.path))) = true then ((req ((0 : Int) ≤ x338 ∧ x338 < lenI a0.path)).bind fun _ => ((req ((0 : Int) ≤ (wrap64 ((lenI x339) - (1 : Int))) ∧ (wrap64 ((lenI x339) - (1 : Int))) < lenI x339)).bind fun _ => ((r01_Order ((getI x339 (wrap64 ((lenI x339) - (1 : Int)))).bits) ((getI a0.path x338).bits)).bind fun t383 => (if (t383 == (1 : Int)) = true then ((r15_Check (getI a0.path x338) (getI x339 (wrap64 ((lenI x339) - (1 : Int))))).bind fun t391 => (if (t391 != (0 : Int)) = true then some (.inr (.inl ([], [], t391))) else ((r16_Inner (getI a0.path x338) (getI x339 (wrap64 ((lenI x339) - (1 : Int))))).bind fun t400 => (((r18_has t400 a1).bind fun t411 => (if (!t411) = true then some true else ((r01_Bit a1 t400.len).bind fun t423 => ((r01_Bit ((getI x339 (wrap64 ((lenI x339) - (1 : Int)))).bits) t400.len).bind fun t429 => some (t423 != t429))))).bind fun b410 => (if b410 = true then some (.inr (.inl ([], [], (11 : Int)))) else ((r15_InnerBytes (getI a0.path x338) (getI x339 (wrap64 ((lenI x339) - (1 : Int))))).bind fun t455 => ((req (List.length x341 + List.length ([t455] : List Str) ≤ LIM)).bind fun _ => ((req (List.length x339 + List.length ([t400] : List Item) ≤ LIM)).bind fun _ => some (.inl ((wrap64 (x338 + (1 : Int))), (x339 ++ ([t400] : List Item)), (x341 ++ ([t455] : List Str)))))))))))) else ((r15_Check (getI x339 (wrap64 ((lenI x339) - (1 : Int)))) (getI a0.path x338)).bind fun t470 => (if (t470 != (0 : Int)) = true then some (.inr (.inl ([], [], t470))) else ((r16_Inner (getI x339 (wrap64 ((lenI x339) - (1 : Int)))) (getI a0.path x338)).bind fun t479 => (((r18_has t479 a1).bind fun t490 => (if (!t490) = true then some true else ((r01_Bit a1 t479.len).bind fun t502 => ((r01_Bit ((getI x339 (wrap64 ((lenI x339) - (1 : Int)))).bits) t479.len).bind fun t508 => some (t502 != t508))))).bind fun b489 => (if b489 = true then some (.inr (.inl ([], [], (11 : Int)))) else ((r15_InnerBytes (getI x339 (wrap64 ((lenI x339) - (1 : Int)))) (getI a0.path x338)).bind fun t534 => ((req (List.length x341 + List.length ([t534] : List Str) ≤ LIM)).bind fun _ => ((req (List.length x339 + List.length ([t479] : List Item) ≤ LIM)).bind fun _ => some (.inl ((wrap64 (x338 + (1 : Int))), (x339 ++ ([t479] : List Item)), (x341 ++ ([t534] : List Str)))))))))))))))) else some (.inr (.inr (x338, x339, x341))))

def r18_Nodes  (a0 : Proof) (a1 : Lab) : Option ((List Str) × (List Item) × Int) :=
 (if (decide ((256 : Int) < (lenI a0.path))) = true then some ([], [], (2 : Int)) else (if (a0.end_ == (0 : Int)) = true then (if (decide ((0 : Int) < (lenI a0.path))) = true then some ([], [], (3 : Int)) else some (([] : List Str), ([] : List Item), (0 : Int))) else (if (a0.end_ == (1 : Int)) = true then ((if (decide (a0.leaf.at_ < (0 : Int))) = true then some true else some (decide ((1073741824 : Int) < a0.leaf.at_))).bind fun b36 => (if b36 = true then some ([], [], (1 : Int)) else ((r15_LeafBytes a0.leaf).bind fun t44 => ((req (List.length ([] : List Str) + List.length ([t44] : List Str) ≤ LIM)).bind fun _ => ((r16_Leaf a0.leaf).bind fun t53 => ((req (List.length ([] : List Item) + List.length ([t53] : List Item) ≤ LIM)).bind fun _ => ((iter (r18_Nodes_s1 a0 a1) ((0 : Int), (([] : List Item) ++ ([t53] : List Item)), (([] : List Str) ++ ([t44] : List Str)))).bind fun b72 => (match b72 with | .inl r₀ => some r₀ | .inr (x66, x67, x69) => some (x69, x67, (0 : Int)))))))))) else (if (a0.end_ == (2 : Int)) = true then ((r15_Check a0.a a0.b).bind fun t288 => (if (t288 != (0 : Int)) = true then some ([], [], t288) else ((r15_InnerBytes a0.a a0.b).bind fun t297 => ((req (List.length ([] : List Str) + List.length ([t297] : List Str) ≤ LIM)).bind fun _ => ((r16_Inner a0.a a0.b).bind fun t307 => ((req (List.length ([] : List Item) + List.length ([t307] : List Item) ≤ LIM)).bind fun _ => ((req ((0 : Int) ≤ (0 : Int) ∧ (0 : Int) < lenI (([] : List Item) ++ ([t307] : List Item)))).bind fun _ => ((r18_has (getI (([] : List Item) ++ ([t307] : List Item)) (0 : Int)) a1).bind fun t321 => (if t321 = true then some ([], [], (11 : Int)) else ((iter (r18_Nodes_s2 a0 a1) ((0 : Int), (([] : List Item) ++ ([t307] : List Item)), (([] : List Str) ++ ([t297] : List Str)))).bind fun b344 => (match b344 with | .inl r₀ => some r₀ | .inr (x338, x339, x341) => some (x341, x339, (0 : Int))))))))))))) else some ([], [], (1 : Int))))))

theorem r18_Nodes_ok {S : Hp} (a0 : Proof) (a1 : Lab) {v1 : Value} (q2 : Sls S v1 a0.path) {r : (List Str) × (List Item) × Int} (h : r18_Nodes a0 a1 = some r) : Fn Tryz.prog 15 [aggV [sV (.int .i64 a0.end_), sL a0.leaf.label, sL a0.leaf.value, sV (.int .i64 a0.leaf.at_), sV (.int .i64 a0.a.len), sL a0.a.bits, sL a0.a.sum, sV (.int .i64 a0.a.at_), sV (.int .i64 a0.b.len), sL a0.b.bits, sL a0.b.sum, sV (.int .i64 a0.b.at_), sV v1], aggV [sL a1]] S (fun v S' => ∃ (v0₁ : Value) (v1₁ : Value), v = .tuple #[v0₁, v1₁, .int .i64 r.2.2] ∧ Sls S' v0₁ r.1 ∧ Sls S' v1₁ r.2.1) := by
 unfold r18_Nodes at h
 refine fo [.tmp 4, .tmp 5, .tmp 6] 149 Tryz.func15 Tryz.ntmps15 (fun o F Q hQ hN hret => ?_)
 refine sr (fun _ hK3 => ?_)
 refine st (OS.boxA (by decide) rfl (fun ad4 => ?_))
 refine st (OS.boxA (by decide) rfl (fun ad6 => ?_))
 refine an ?_
 refine an ?_
 refine an ?_
 refine nt hK3 ?_
 refine G.seq (fun _ hK8 => ?_)
 refine sr (fun _ hK9 => ?_)
 refine vl (Y.fieldAddr 198 rfl fld48_4 rfl) ?_
 refine lv 1 12 one46 ?_
 refine vl (Y.lenS rfl q2 slc46) ?_
 refine vl (Y.gtI rfl rfl) ?_
 refine nt hK9 ?_
 refine G.cond _ rfl (fun c10 => ?_) (fun c10 => ?_)
 ·replace h := ite_t c10 h
  refine sr (fun _ hK11 => ?_)
  refine an ?_
  refine an ?_
  refine an ?_
  refine nt hK11 ?_
  refine G.ret ?_
  obtain rfl := Option.some.inj h
  exact hret _ _ _ _ 2 l0 (.cons (.tmp rfl) (.cons (.tmp rfl) (.cons (.tmp rfl) .nil))) ⟨_, _, rfl, (Sls.nil (α := Str) _), (Sls.nil (α := Item) _)⟩ rfl
 replace h := ite_f c10 h
 refine sk hK8 ?_
 refine sr (fun _ hK12 => ?_)
 refine bs ([] : List Str) el58 (fun v13 => ?_)
 refine bs ([] : List Item) el46 (fun v15 => ?_)
 refine an ?_
 refine an ?_
 refine nt hK12 ?_
 refine G.seq (fun _ hK17 => ?_)
 refine sr (fun _ hK18 => ?_)
 refine vl (Y.fieldAddr 0 rfl fld48_0 rfl) ?_
 refine lv 3 0 one3 ?_
 refine nt hK18 ?_
 refine G.block ?_
 refine sr (fun _ hK19 => ?_)
 refine vl (Y.eqI rfl rfl) ?_
 refine an ?_
 refine nt hK19 ?_
 refine G.cond _ rfl (fun c20 => ?_) (fun c20 => ?_)
 ·replace h := ite_t c20 h
  refine G.seq (fun _ hK21 => ?_)
  refine sr (fun _ hK22 => ?_)
  refine vl (Y.fieldAddr 198 rfl fld48_4 rfl) ?_
  refine lv 3 12 one46 ?_
  refine vl (Y.lenS rfl q2 slc46) ?_
  refine vl (Y.gtI rfl rfl) ?_
  refine nt hK22 ?_
  refine G.cond _ rfl (fun c23 => ?_) (fun c23 => ?_)
  ·replace h := ite_t c23 h
   refine sr (fun _ hK24 => ?_)
   refine an ?_
   refine an ?_
   refine an ?_
   refine nt hK24 ?_
   refine G.ret ?_
   obtain rfl := Option.some.inj h
   exact hret _ _ _ _ 4 l0 (.cons (.tmp rfl) (.cons (.tmp rfl) (.cons (.tmp rfl) .nil))) ⟨_, _, rfl, (Sls.nil (α := Str) _), (Sls.nil (α := Item) _)⟩ rfl
  replace h := ite_f c23 h
  refine sk hK21 ?_
  refine sr (fun _ hK25 => ?_)
  refine mv ?_
  refine mv ?_
  refine an ?_
  refine an ?_
  refine an ?_
  refine nt hK25 ?_
  refine G.ret ?_
  refine GX.shareR 1 rfl (fun S26 e27 q28 => ?_)
  replace q2 := q2.up e27
  refine GX.shareR 0 rfl (fun S29 e30 q31 => ?_)
  replace q2 := q2.up e30
  replace q28 := q28.up e30
  obtain rfl := Option.some.inj h
  exact hret _ _ _ _ 4 (l2 e27 e30) (.cons (.tmp rfl) (.cons (.tmp rfl) (.cons (.tmp rfl) .nil))) ⟨_, _, rfl, q28, q31⟩ rfl
 replace h := ite_f c20 h
 refine sr (fun _ hK32 => ?_)
 refine vl (Y.eqI rfl rfl) ?_
 refine an ?_
 refine nt hK32 ?_
 refine G.cond _ rfl (fun c33 => ?_) (fun c33 => ?_)
 ·replace h := ite_t c33 h
  refine G.seq (fun _ hK34 => ?_)
  refine sr (fun _ hK35 => ?_)
  refine vl (Y.fieldAddr 1 rfl fld48_1 rfl) ?_
  refine vl (Y.fieldAddr 65 rfl fld41_2 rfl) ?_
  refine lv 3 3 one3 ?_
  refine vl (Y.ltI rfl rfl) ?_
  refine mv ?_
  obtain ⟨b36, wb36, h⟩ := bind_some' h
  refine GO.joinB 5 44 (b36 = ·) (fun K38 hK38 => ?_) ?_
  ·replace h := wb36
   rcases Bool.eq_false_or_eq_true (decide (a0.leaf.at_ < (0 : Int))) with c37 | c37
   ·replace h := ite_t c37 h
    refine gf 39 c37 ?_
    refine gf 39 c37 ?_
    refine gf 39 c37 ?_
    refine gf 39 c37 ?_
    refine vl (Y.pickT _ c37 rfl rfl) ?_
    refine GO.nil ?_
    refine p2 (p2 (p2 (p2 ?_)))
    exact hK38 _ _ l0 (Option.some.inj h).symm
   replace h := ite_f c37 h
   refine gv 39 c37 (Y.fieldAddr 1 rfl fld48_1 rfl) ?_
   refine gv 39 c37 (Y.fieldAddr 65 rfl fld41_2 rfl) ?_
   refine gv 39 c37 (Y.loadV 3  3 _ rfl rfl rfl rfl one3) ?_
   refine gv 39 c37 (Y.gtI rfl rfl) ?_
   refine vl (Y.pickF _ c37 rfl rfl) ?_
   refine GO.nil ?_
   refine p2 (p2 (p2 (p2 ?_)))
   exact hK38 _ _ l0 (Option.some.inj h).symm
  rintro _ S39 e40 rfl
  replace q2 := q2.up e40
  refine nt hK35 ?_
  refine G.cond _ rfl (fun c41 => ?_) (fun c41 => ?_)
  ·replace h := ite_t c41 h
   refine sr (fun _ hK42 => ?_)
   refine an ?_
   refine an ?_
   refine an ?_
   refine nt hK42 ?_
   refine G.ret ?_
   obtain rfl := Option.some.inj h
   exact hret _ _ _ _ 4 e40 (.cons (.tmp rfl) (.cons (.tmp rfl) (.cons (.tmp rfl) .nil))) ⟨_, _, rfl, (Sls.nil (α := Str) _), (Sls.nil (α := Item) _)⟩ rfl
  replace h := ite_f c41 h
  refine sk hK34 ?_
  refine sr (fun _ hK43 => ?_)
  refine mv ?_
  refine vl (Y.fieldAddr 1 rfl fld48_1 rfl) ?_
  refine lb 3 1 3 [sL a0.leaf.label, sL a0.leaf.value, sV (.int .i64 a0.leaf.at_)] row41 ?_
  obtain ⟨t44, wt44, h⟩ := bind_some' h
  refine st (cl fb56 (r15_LeafBytes_ok a0.leaf wt44) (fun v45 S46 e47 z48 => ?_))
  replace q2 := q2.up e47
  obtain rfl := z48
  refine bs ([t44] : List Str) el58 (fun v49 => ?_)
  obtain ⟨g51, h⟩ := req_bind h
  refine st (OS.append (xs := ([] : List Str)) (ys := ([t44] : List Str)) 2 (by decide) rfl rfl rfl (Rw.src (k := 0) rfl) el58 src58 g51 (fun v52 => ?_))
  refine an ?_
  refine nt hK43 ?_
  refine G.region ?_
  refine mv ?_
  refine vl (Y.fieldAddr 1 rfl fld48_1 rfl) ?_
  refine lb 4 1 3 [sL a0.leaf.label, sL a0.leaf.value, sV (.int .i64 a0.leaf.at_)] row41 ?_
  obtain ⟨t53, wt53, h⟩ := bind_some' h
  refine st (cl fb57 (r16_Leaf_ok a0.leaf wt53) (fun v54 S55 e56 z57 => ?_))
  replace q2 := q2.up e56
  obtain rfl := z57
  refine bs ([t53] : List Item) el46 (fun v58 => ?_)
  obtain ⟨g60, h⟩ := req_bind h
  refine st (OS.append (xs := ([] : List Item)) (ys := ([t53] : List Item)) 2 (by decide) rfl rfl rfl (Rw.src (k := 0) rfl) el46 src46 g60 (fun v61 => ?_))
  refine an ?_
  refine GO.nil ?_
  refine GX.normal_block ?_
  refine GX.then hK17 ?_
  refine G.seq (fun _ hK62 => ?_)
  refine sr (fun _ hK63 => ?_)
  refine vl (Y.fieldAddr 198 rfl fld48_4 rfl) ?_
  refine lv 5 12 one46 ?_
  refine vl (Y.lenS rfl q2 slc46) ?_
  refine mv ?_
  refine nt hK63 ?_
  refine G.block ?_
  obtain ⟨b72, wb72, ho73⟩ := bind_some' h
  refine G.keep [91, 90, 89, 8, 7, 3] rfl ?_
  refine G.loopK (r18_Nodes_s1 a0 a1) (fun s₀ E' S' L' => match s₀ with | (x66, x67, x69) => S55.le S' ∧ ∃ (v68 : Value) (v70 : Value), E' = [(91, .int .i64 x66), (90, .int .i64 (lenI a0.path)), (89, v1), (8, v68), (7, v70), (3, .pointer (some ⟨ad6, 0, none⟩))] ∧ Rw v58 ([t53] : List Item) :: Rw v49 ([t44] : List Str) :: Rw v68 x67 :: Rw v70 x69 :: Blk ad6 [sL a1] :: Blk ad4 [sV (.int .i64 a0.end_), sL a0.leaf.label, sL a0.leaf.value, sV (.int .i64 a0.leaf.at_), sV (.int .i64 a0.a.len), sL a0.a.bits, sL a0.a.sum, sV (.int .i64 a0.a.at_), sV (.int .i64 a0.b.len), sL a0.b.bits, sL a0.b.sum, sV (.int .i64 a0.b.at_), sV v1] :: F = L') b72 1 (fun E₀ S₀ L₀ => ∃ (x66 : Int) (x67 : (List Item)) (x69 : (List Str)) (v68 : Value) (v70 : Value), S55.le S₀ ∧ b72 = .inr (x66, x67, x69) ∧ E₀ = [(8, v68), (7, v70)] ∧ Rw v58 ([t53] : List Item) :: Rw v49 ([t44] : List Str) :: Rw v68 x67 :: Rw v70 x69 :: Blk ad6 [sL a1] :: Blk ad4 [sV (.int .i64 a0.end_), sL a0.leaf.label, sL a0.leaf.value, sV (.int .i64 a0.leaf.at_), sV (.int .i64 a0.a.len), sL a0.a.bits, sL a0.a.sum, sV (.int .i64 a0.a.at_), sV (.int .i64 a0.b.len), sL a0.b.bits, sL a0.b.sum, sV (.int .i64 a0.b.at_), sV v1] :: F = L₀) wb72 ?_ ?_ ?_
  ·rintro _ S275 _ ⟨x66, x67, x69, v68, v70, e276, rfl, rfl, rfl⟩
   have h := ho73; clear ho73
   try dsimp only at h
   replace q2 := q2.up e276
   refine GX.exit_block ?_
   refine GX.then hK62 ?_
   refine sr (fun _ hK277 => ?_)
   refine mv ?_
   refine mv ?_
   refine an ?_
   refine an ?_
   refine an ?_
   refine nt hK277 ?_
   refine G.ret ?_
   refine GX.shareR 3 rfl (fun S278 e279 q280 => ?_)
   replace q2 := q2.up e279
   refine GX.shareR 2 rfl (fun S281 e282 q283 => ?_)
   replace q280 := q280.up e282
   replace q2 := q2.up e282
   obtain rfl := Option.some.inj h
   exact hret _ _ _ _ 6 (l2 e40 (l2 e47 (l2 e56 (l2 e276 (l2 e279 e282))))) (.cons (.tmp rfl) (.cons (.tmp rfl) (.cons (.tmp rfl) .nil))) ⟨_, _, rfl, q280, q283⟩ rfl
  ·exact ⟨Hp.le_refl _, v61, v52, rfl, rfl⟩
  rintro ⟨x66, x67, x69⟩ _ S64 _ ⟨e65, v68, v70, rfl, rfl⟩ out1 h hf1 K1 hK1 hx71
  rw [r18_Nodes_s1] at h
  replace q2 := q2.up e65
  refine sr (fun _ hK74 => ?_)
  refine vl (Y.ltI rfl rfl) ?_
  refine nt hK74 ?_
  refine G.seq (fun _ hK75 => ?_)
  refine G.cond _ rfl (fun c76 => ?_) (fun c76 => ?_)
  ·replace h := ite_t c76 h
   refine sk hK75 ?_
   refine G.seq (fun _ hK77 => ?_)
   refine G.block ?_
   refine sr (fun _ hK78 => ?_)
   obtain ⟨g79, h⟩ := req_bind h
   obtain ⟨ad80, p81, z82, q83⟩ := Sls.at q2 g79
   refine vl (Y.idxS rfl z82 rfl slc46 g79) ?_
   refine vl (Y.loadS [sV (.int .i64 ((getI a0.path x66).len)), sL ((getI a0.path x66).bits), sL ((getI a0.path x66).sum), sV (.int .i64 ((getI a0.path x66).at_))] rfl (At.part q83 0 4 _ rfl rfl) row45 (by kernel_rfl)) ?_
   refine st (OS.alloc _ (by decide) zero45 (fun ad84 => ?_))
   refine sf 0 4 [sV (.int .i64 ((getI a0.path x66).len)), sL ((getI a0.path x66).bits), sL ((getI a0.path x66).sum), sV (.int .i64 ((getI a0.path x66).at_))] (aggV_cells _) (oI (oL (oL (oI oN)))) size45 ?_
   refine nt hK78 ?_
   refine sr (fun _ hK86 => ?_)
   refine mv ?_
   refine mv ?_
   refine vl (Y.lenR 3  rfl rfl slc46) ?_
   refine vl (Y.subI rfl rfl) ?_
   obtain ⟨g87, h⟩ := req_bind h
   refine GO.rowAt 3 rfl g87 (fun ad88 p89 z90 => ?_)
   refine vl (Y.idxR rfl z90 rfl slc46 g87) ?_
   refine vl (Y.loadRow 3  (wrap64 ((lenI x67) - (1 : Int))) 0 4 [sV (.int .i64 ((getI x67 (wrap64 ((lenI x67) - (1 : Int)))).len)), sL ((getI x67 (wrap64 ((lenI x67) - (1 : Int)))).bits), sL ((getI x67 (wrap64 ((lenI x67) - (1 : Int)))).sum), sV (.int .i64 ((getI x67 (wrap64 ((lenI x67) - (1 : Int)))).at_))] rfl rfl z90 g87 rfl rfl row45 (by kernel_rfl)) ?_
   refine st (OS.alloc _ (by decide) zero45 (fun ad91 => ?_))
   refine sf 0 4 [sV (.int .i64 ((getI x67 (wrap64 ((lenI x67) - (1 : Int)))).len)), sL ((getI x67 (wrap64 ((lenI x67) - (1 : Int)))).bits), sL ((getI x67 (wrap64 ((lenI x67) - (1 : Int)))).sum), sV (.int .i64 ((getI x67 (wrap64 ((lenI x67) - (1 : Int)))).at_))] (aggV_cells _) (oI (oL (oL (oI oN)))) size45 ?_
   refine nt hK86 ?_
   refine G.seq (fun _ hK93 => ?_)
   refine G.cut (fun E₀ S₀ L₀ => ∃ (ad97 : Nat) (ad95 : Nat), S64.le S₀ ∧ E₀ = [(14, .pointer (some ⟨ad97, 0, none⟩)), (13, .pointer (some ⟨ad95, 0, none⟩)), (12, .pointer (some ⟨ad91, 0, none⟩)), (11, .pointer (some ⟨ad84, 0, none⟩)), (91, .int .i64 x66), (90, .int .i64 (lenI a0.path)), (89, v1), (8, v68), (7, v70), (3, .pointer (some ⟨ad6, 0, none⟩))] ∧ Blk ad97 [sV (.int .i64 ((getI a0.path x66).len)), sL ((getI a0.path x66).bits), sL ((getI a0.path x66).sum), sV (.int .i64 ((getI a0.path x66).at_))] :: Blk ad95 [sV (.int .i64 ((getI x67 (wrap64 ((lenI x67) - (1 : Int)))).len)), sL ((getI x67 (wrap64 ((lenI x67) - (1 : Int)))).bits), sL ((getI x67 (wrap64 ((lenI x67) - (1 : Int)))).sum), sV (.int .i64 ((getI x67 (wrap64 ((lenI x67) - (1 : Int)))).at_))] :: Blk ad91 [sV (.int .i64 ((getI x67 (wrap64 ((lenI x67) - (1 : Int)))).len)), sL ((getI x67 (wrap64 ((lenI x67) - (1 : Int)))).bits), sL ((getI x67 (wrap64 ((lenI x67) - (1 : Int)))).sum), sV (.int .i64 ((getI x67 (wrap64 ((lenI x67) - (1 : Int)))).at_))] :: Blk ad84 [sV (.int .i64 ((getI a0.path x66).len)), sL ((getI a0.path x66).bits), sL ((getI a0.path x66).sum), sV (.int .i64 ((getI a0.path x66).at_))] :: Rw v58 ([t53] : List Item) :: Rw v49 ([t44] : List Str) :: Rw v68 x67 :: Rw v70 x69 :: Blk ad6 [sL a1] :: Blk ad4 [sV (.int .i64 a0.end_), sL a0.leaf.label, sL a0.leaf.value, sV (.int .i64 a0.leaf.at_), sV (.int .i64 a0.a.len), sL a0.a.bits, sL a0.a.sum, sV (.int .i64 a0.a.at_), sV (.int .i64 a0.b.len), sL a0.b.bits, sL a0.b.sum, sV (.int .i64 a0.b.at_), sV v1] :: F = L₀) (fun K94 hK94 => ?_) ?_
   ·refine G.drawN 6 mixed (by kernel_rfl) ?_
    refine tn 0 rfl hQ (fun S₀ X₀ e₀ => Y.loadB (X₀.length + 0)  0 4 [sV (.int .i64 ((getI x67 (wrap64 ((lenI x67) - (1 : Int)))).len)), sL ((getI x67 (wrap64 ((lenI x67) - (1 : Int)))).bits), sL ((getI x67 (wrap64 ((lenI x67) - (1 : Int)))).sum), sV (.int .i64 ((getI x67 (wrap64 ((lenI x67) - (1 : Int)))).at_))] rfl (Lk rfl) rfl rfl row45 (by kernel_rfl)) ?_
    refine tn 1 rfl hQ (fun S₀ X₀ e₀ => Y.loadB (X₀.length + 1)  0 4 [sV (.int .i64 ((getI a0.path x66).len)), sL ((getI a0.path x66).bits), sL ((getI a0.path x66).sum), sV (.int .i64 ((getI a0.path x66).at_))] rfl (Lk rfl) rfl rfl row45 (by kernel_rfl)) ?_
    refine GDr.any [2, 3] (by kernel_rfl) rfl (AllR.two ?_ ?_)
    ·refine n1 rfl (OS.alloc _ (by decide) zero45 (fun ad99 => ⟨⟨[_], (.same .refl), l0⟩, ?_⟩))
     refine g1 3 ?_
     refine n1 rfl (OS.alloc _ (by decide) zero45 (fun ad101 => ⟨⟨[_, _], (.same (.same .refl)), l0⟩, ?_⟩))
     refine g1 4 ?_
     refine n1 rfl (OS.store 1 0 4 [sV (.int .i64 ((getI x67 (wrap64 ((lenI x67) - (1 : Int)))).len)), sL ((getI x67 (wrap64 ((lenI x67) - (1 : Int)))).bits), sL ((getI x67 (wrap64 ((lenI x67) - (1 : Int)))).sum), sV (.int .i64 ((getI x67 (wrap64 ((lenI x67) - (1 : Int)))).at_))] (r := [sV (.int .i64 ((getI x67 (wrap64 ((lenI x67) - (1 : Int)))).len)), sL ((getI x67 (wrap64 ((lenI x67) - (1 : Int)))).bits), sL ((getI x67 (wrap64 ((lenI x67) - (1 : Int)))).sum), sV (.int .i64 ((getI x67 (wrap64 ((lenI x67) - (1 : Int)))).at_))]) rfl rfl (aggV_cells _) (oI (oL (oL (oI oN)))) rfl rfl size45 (by kernel_rfl) (by kernel_rfl) (by kernel_rfl) ⟨⟨[_, _], (.same (.same .refl)), l0⟩, ?_⟩)
     refine g1 5 ?_
     refine n1 rfl (OS.store 0 0 4 [sV (.int .i64 ((getI a0.path x66).len)), sL ((getI a0.path x66).bits), sL ((getI a0.path x66).sum), sV (.int .i64 ((getI a0.path x66).at_))] (r := [sV (.int .i64 ((getI a0.path x66).len)), sL ((getI a0.path x66).bits), sL ((getI a0.path x66).sum), sV (.int .i64 ((getI a0.path x66).at_))]) rfl rfl (aggV_cells _) (oI (oL (oL (oI oN)))) rfl rfl size45 (by kernel_rfl) (by kernel_rfl) (by kernel_rfl) ⟨⟨[_, _], (.same (.same .refl)), l0⟩, ?_⟩)
     refine dn ?_
     refine GX.keep [14, 13, 12, 11, 91, 90, 89, 8, 7, 3] rfl ?_
     exact hK94 _ _ _ ⟨ad101, ad99, l0, rfl, rfl⟩
    refine n1 rfl (OS.alloc _ (by decide) zero45 (fun ad103 => ⟨⟨[_], (.same .refl), l0⟩, ?_⟩))
    refine g1 2 ?_
    refine n1 rfl (OS.alloc _ (by decide) zero45 (fun ad105 => ⟨⟨[_, _], (.same (.same .refl)), l0⟩, ?_⟩))
    refine g1 4 ?_
    refine n1 rfl (OS.store 0 0 4 [sV (.int .i64 ((getI x67 (wrap64 ((lenI x67) - (1 : Int)))).len)), sL ((getI x67 (wrap64 ((lenI x67) - (1 : Int)))).bits), sL ((getI x67 (wrap64 ((lenI x67) - (1 : Int)))).sum), sV (.int .i64 ((getI x67 (wrap64 ((lenI x67) - (1 : Int)))).at_))] (r := [sV (.int .i64 ((getI x67 (wrap64 ((lenI x67) - (1 : Int)))).len)), sL ((getI x67 (wrap64 ((lenI x67) - (1 : Int)))).bits), sL ((getI x67 (wrap64 ((lenI x67) - (1 : Int)))).sum), sV (.int .i64 ((getI x67 (wrap64 ((lenI x67) - (1 : Int)))).at_))]) rfl rfl (aggV_cells _) (oI (oL (oL (oI oN)))) rfl rfl size45 (by kernel_rfl) (by kernel_rfl) (by kernel_rfl) ⟨⟨[_, _], (.same (.same .refl)), l0⟩, ?_⟩)
    refine g1 5 ?_
    refine n1 rfl (OS.store 1 0 4 [sV (.int .i64 ((getI a0.path x66).len)), sL ((getI a0.path x66).bits), sL ((getI a0.path x66).sum), sV (.int .i64 ((getI a0.path x66).at_))] (r := [sV (.int .i64 ((getI a0.path x66).len)), sL ((getI a0.path x66).bits), sL ((getI a0.path x66).sum), sV (.int .i64 ((getI a0.path x66).at_))]) rfl rfl (aggV_cells _) (oI (oL (oL (oI oN)))) rfl rfl size45 (by kernel_rfl) (by kernel_rfl) (by kernel_rfl) ⟨⟨[_, _], (.same (.same .refl)), l0⟩, ?_⟩)
    refine dn ?_
    refine GX.keep [14, 13, 12, 11, 91, 90, 89, 8, 7, 3] rfl ?_
    refine GX.perm (.trans (.swap _ _ _) (.cons _ (.refl _))) ?_
    exact hK94 _ _ _ ⟨ad103, ad105, l0, rfl, rfl⟩
   rintro _ S107 _ ⟨ad97, ad95, e108, rfl, rfl⟩
   replace q2 := q2.up e108
   refine GX.then hK93 ?_
   refine G.seq (fun _ hK109 => ?_)
   refine sr (fun _ hK110 => ?_)
   refine vl (Y.fieldAddr 1 rfl fld45_1 rfl) ?_
   refine lb 2 1 1 [sL ((getI x67 (wrap64 ((lenI x67) - (1 : Int)))).bits)] row23 ?_
   refine vl (Y.fieldAddr 1 rfl fld45_1 rfl) ?_
   refine lb 3 1 1 [sL ((getI a0.path x66).bits)] row23 ?_
   obtain ⟨t111, wt111, h⟩ := bind_some' h
   refine st (cl fb62 (r01_Order_ok ((getI x67 (wrap64 ((lenI x67) - (1 : Int)))).bits) ((getI a0.path x66).bits) wt111) (fun v112 S113 e114 z115 => ?_))
   replace q2 := q2.up e114
   obtain rfl := z115
   refine vl (Y.eqI rfl rfl) ?_
   refine nt hK110 ?_
   refine G.cond _ rfl (fun c116 => ?_) (fun c116 => ?_)
   ·replace h := ite_t c116 h
    refine G.drawS 2 _ ((fun _ => True) :: (fun _ => True) :: Blk ad91 [sV (.int .i64 ((getI x67 (wrap64 ((lenI x67) - (1 : Int)))).len)), sL ((getI x67 (wrap64 ((lenI x67) - (1 : Int)))).bits), sL ((getI x67 (wrap64 ((lenI x67) - (1 : Int)))).sum), sV (.int .i64 ((getI x67 (wrap64 ((lenI x67) - (1 : Int)))).at_))] :: Blk ad84 [sV (.int .i64 ((getI a0.path x66).len)), sL ((getI a0.path x66).bits), sL ((getI a0.path x66).sum), sV (.int .i64 ((getI a0.path x66).at_))] :: Rw v58 ([t53] : List Item) :: Rw v49 ([t44] : List Str) :: Rw v68 x67 :: Rw v70 x69 :: Blk ad6 [sL a1] :: Blk ad4 [sV (.int .i64 a0.end_), sL a0.leaf.label, sL a0.leaf.value, sV (.int .i64 a0.leaf.at_), sV (.int .i64 a0.a.len), sL a0.a.bits, sL a0.a.sum, sV (.int .i64 a0.a.at_), sV (.int .i64 a0.b.len), sL a0.b.bits, sL a0.b.sum, sV (.int .i64 a0.b.at_), sV v1] :: F) mixed .refl (by kernel_rfl) ?_
    refine tx 0 rfl (.lose (.lose .refl)) hQ (fun S₀ X₀ e₀ => Y.loadB (X₀.length + 3)  0 4 [sV (.int .i64 ((getI a0.path x66).len)), sL ((getI a0.path x66).bits), sL ((getI a0.path x66).sum), sV (.int .i64 ((getI a0.path x66).at_))] rfl (Lk rfl) rfl rfl row45 (by kernel_rfl)) ?_
    refine tx 1 rfl (.lose (.lose .refl)) hQ (fun S₀ X₀ e₀ => Y.loadB (X₀.length + 2)  0 4 [sV (.int .i64 ((getI x67 (wrap64 ((lenI x67) - (1 : Int)))).len)), sL ((getI x67 (wrap64 ((lenI x67) - (1 : Int)))).bits), sL ((getI x67 (wrap64 ((lenI x67) - (1 : Int)))).sum), sV (.int .i64 ((getI x67 (wrap64 ((lenI x67) - (1 : Int)))).at_))] rfl (Lk rfl) rfl rfl row45 (by kernel_rfl)) ?_
    refine g1 2 ?_
    refine n2 rfl (OS.store 1 0 4 [sV (.int .i64 ((getI a0.path x66).len)), sL ((getI a0.path x66).bits), sL ((getI a0.path x66).sum), sV (.int .i64 ((getI a0.path x66).at_))] (r := [sV (.int .i64 ((getI a0.path x66).len)), sL ((getI a0.path x66).bits), sL ((getI a0.path x66).sum), sV (.int .i64 ((getI a0.path x66).at_))]) rfl rfl (aggV_cells _) (oI (oL (oL (oI oN)))) rfl rfl size45 (by kernel_rfl) (by kernel_rfl) (by kernel_rfl) ⟨⟨[], (.lose (.lose .refl)), l0⟩, ?_⟩)
    refine g1 3 ?_
    refine n2 rfl (OS.store 0 0 4 [sV (.int .i64 ((getI x67 (wrap64 ((lenI x67) - (1 : Int)))).len)), sL ((getI x67 (wrap64 ((lenI x67) - (1 : Int)))).bits), sL ((getI x67 (wrap64 ((lenI x67) - (1 : Int)))).sum), sV (.int .i64 ((getI x67 (wrap64 ((lenI x67) - (1 : Int)))).at_))] (r := [sV (.int .i64 ((getI x67 (wrap64 ((lenI x67) - (1 : Int)))).len)), sL ((getI x67 (wrap64 ((lenI x67) - (1 : Int)))).bits), sL ((getI x67 (wrap64 ((lenI x67) - (1 : Int)))).sum), sV (.int .i64 ((getI x67 (wrap64 ((lenI x67) - (1 : Int)))).at_))]) rfl rfl (aggV_cells _) (oI (oL (oL (oI oN)))) rfl rfl size45 (by kernel_rfl) (by kernel_rfl) (by kernel_rfl) ⟨⟨[], (.lose (.lose .refl)), l0⟩, ?_⟩)
    refine dn ?_
    refine GX.then hK109 ?_
    refine G.seq (fun _ hK117 => ?_)
    refine sr (fun _ hK118 => ?_)
    refine lb 1 0 4 [sV (.int .i64 ((getI a0.path x66).len)), sL ((getI a0.path x66).bits), sL ((getI a0.path x66).sum), sV (.int .i64 ((getI a0.path x66).at_))] row45 ?_
    refine lb 0 0 4 [sV (.int .i64 ((getI x67 (wrap64 ((lenI x67) - (1 : Int)))).len)), sL ((getI x67 (wrap64 ((lenI x67) - (1 : Int)))).bits), sL ((getI x67 (wrap64 ((lenI x67) - (1 : Int)))).sum), sV (.int .i64 ((getI x67 (wrap64 ((lenI x67) - (1 : Int)))).at_))] row45 ?_
    obtain ⟨t119, wt119, h⟩ := bind_some' h
    refine st (cl fb58 (r15_Check_ok (getI a0.path x66) (getI x67 (wrap64 ((lenI x67) - (1 : Int)))) wt119) (fun v120 S121 e122 z123 => ?_))
    replace q2 := q2.up e122
    obtain rfl := z123
    refine an ?_
    refine nt hK118 ?_
    refine sr (fun _ hK124 => ?_)
    refine mv ?_
    refine vl (Y.neI rfl rfl) ?_
    refine nt hK124 ?_
    refine G.cond _ rfl (fun c125 => ?_) (fun c125 => ?_)
    ·replace h := ite_t c125 h
     refine sr (fun _ hK126 => ?_)
     refine mv ?_
     refine an ?_
     refine an ?_
     refine an ?_
     refine nt hK126 ?_
     refine G.ret ?_
     obtain rfl := Option.some.inj h
     obtain rfl := hf1 _ rfl
     have h := ho73
     try dsimp only at h
     obtain rfl := Option.some.inj h
     exact hret _ _ _ _ 10 (l2 e40 (l2 e47 (l2 e56 (l2 e65 (l2 e108 (l2 e114 e122)))))) (.cons (.tmp rfl) (.cons (.tmp rfl) (.cons (.tmp rfl) .nil))) ⟨_, _, rfl, (Sls.nil (α := Str) _), (Sls.nil (α := Item) _)⟩ rfl
    replace h := ite_f c125 h
    refine sk hK117 ?_
    refine sr (fun _ hK127 => ?_)
    refine lb 1 0 4 [sV (.int .i64 ((getI a0.path x66).len)), sL ((getI a0.path x66).bits), sL ((getI a0.path x66).sum), sV (.int .i64 ((getI a0.path x66).at_))] row45 ?_
    refine lb 0 0 4 [sV (.int .i64 ((getI x67 (wrap64 ((lenI x67) - (1 : Int)))).len)), sL ((getI x67 (wrap64 ((lenI x67) - (1 : Int)))).bits), sL ((getI x67 (wrap64 ((lenI x67) - (1 : Int)))).sum), sV (.int .i64 ((getI x67 (wrap64 ((lenI x67) - (1 : Int)))).at_))] row45 ?_
    obtain ⟨t128, wt128, h⟩ := bind_some' h
    refine st (cl fb60 (r16_Inner_ok (getI a0.path x66) (getI x67 (wrap64 ((lenI x67) - (1 : Int)))) wt128) (fun v129 S130 e131 z132 => ?_))
    replace q2 := q2.up e131
    obtain rfl := z132
    refine st (OS.alloc _ (by decide) zero45 (fun ad133 => ?_))
    refine sf 0 4 [sV (.int .i64 t128.len), sL t128.bits, sL t128.sum, sV (.int .i64 t128.at_)] (aggV_cells _) (oI (oL (oL (oI oN)))) size45 ?_
    refine nt hK127 ?_
    refine G.seq (fun _ hK135 => ?_)
    refine G.seq (fun _ hK136 => ?_)
    obtain ⟨b138, wb138, h⟩ := bind_some' h
    refine G.cut (fun E₀ S₀ L₀ => S130.le S₀ ∧ E₀ = [(135, .bool b138), (16, .pointer (some ⟨ad133, 0, none⟩)), (14, .pointer (some ⟨ad97, 0, none⟩)), (13, .pointer (some ⟨ad95, 0, none⟩)), (91, .int .i64 x66), (90, .int .i64 (lenI a0.path)), (89, v1), (8, v68), (7, v70), (3, .pointer (some ⟨ad6, 0, none⟩))] ∧ Blk ad133 [sV (.int .i64 t128.len), sL t128.bits, sL t128.sum, sV (.int .i64 t128.at_)] :: Blk ad97 [sV (.int .i64 ((getI x67 (wrap64 ((lenI x67) - (1 : Int)))).len)), sL ((getI x67 (wrap64 ((lenI x67) - (1 : Int)))).bits), sL ((getI x67 (wrap64 ((lenI x67) - (1 : Int)))).sum), sV (.int .i64 ((getI x67 (wrap64 ((lenI x67) - (1 : Int)))).at_))] :: Blk ad95 [sV (.int .i64 ((getI a0.path x66).len)), sL ((getI a0.path x66).bits), sL ((getI a0.path x66).sum), sV (.int .i64 ((getI a0.path x66).at_))] :: Blk ad91 [sV (.int .i64 ((getI x67 (wrap64 ((lenI x67) - (1 : Int)))).len)), sL ((getI x67 (wrap64 ((lenI x67) - (1 : Int)))).bits), sL ((getI x67 (wrap64 ((lenI x67) - (1 : Int)))).sum), sV (.int .i64 ((getI x67 (wrap64 ((lenI x67) - (1 : Int)))).at_))] :: Blk ad84 [sV (.int .i64 ((getI a0.path x66).len)), sL ((getI a0.path x66).bits), sL ((getI a0.path x66).sum), sV (.int .i64 ((getI a0.path x66).at_))] :: Rw v58 ([t53] : List Item) :: Rw v49 ([t44] : List Str) :: Rw v68 x67 :: Rw v70 x69 :: Blk ad6 [sL a1] :: Blk ad4 [sV (.int .i64 a0.end_), sL a0.leaf.label, sL a0.leaf.value, sV (.int .i64 a0.leaf.at_), sV (.int .i64 a0.a.len), sL a0.a.bits, sL a0.a.sum, sV (.int .i64 a0.a.at_), sV (.int .i64 a0.b.len), sL a0.b.bits, sL a0.b.sum, sV (.int .i64 a0.b.at_), sV v1] :: F = L₀) (fun K137 hK137 => ?_) ?_
    ·replace h := wb138
     obtain ⟨t139, wt139, h⟩ := bind_some' h
     rcases Bool.eq_false_or_eq_true (!t139) with c145 | c145
     ·replace h := ite_t c145 h
      obtain rfl := Option.some.inj h
      refine G.drawN 16 mixed (by kernel_rfl) ?_
      refine tn 0 rfl hQ (fun S₀ X₀ e₀ => Y.loadB (X₀.length + 0)  0 4 [sV (.int .i64 t128.len), sL t128.bits, sL t128.sum, sV (.int .i64 t128.at_)] rfl (Lk rfl) rfl rfl row45 (by kernel_rfl)) ?_
      refine tn 1 rfl hQ (fun S₀ X₀ e₀ => Y.loadB (X₀.length + 9)  0 1 [sL a1] rfl (Lk rfl) rfl rfl row23 (by kernel_rfl)) ?_
      refine g1 2 ?_
      refine n1 rfl (cl fb61 (r18_has_ok t128 a1 wt139) (fun v146 S147 e148 z149 => ⟨⟨[], .refl, e148⟩, ?_⟩))
      have q150 := q2.up e148
      obtain rfl := z149
      refine tn 3 rfl hQ (fun _ _ _ => Y.not rfl) ?_
      refine tn 4 rfl hQ (fun _ _ _ => Y.move rfl) ?_
      refine tf 5 rfl .refl hQ (gn 124 c145) ?_
      refine tf 6 rfl .refl hQ (gn 124 c145) ?_
      refine tf 7 rfl .refl hQ (gn 124 c145) ?_
      refine tf 8 rfl .refl hQ (gn 124 c145) ?_
      refine tf 9 rfl .refl hQ (gn 124 c145) ?_
      refine tf 10 rfl .refl hQ (gn 124 c145) ?_
      refine tf 11 rfl .refl hQ (gn 124 c145) ?_
      refine tf 12 rfl .refl hQ (gn 124 c145) ?_
      refine tf 13 rfl .refl hQ (gn 124 c145) ?_
      refine tf 14 rfl .refl hQ (gn 124 c145) ?_
      refine tn 15 rfl hQ (fun _ _ _ => Y.pickT _ c145 rfl rfl) ?_
      refine dn ?_
      refine GX.keep [135, 16, 14, 13, 91, 90, 89, 8, 7, 3] rfl ?_
      exact hK137 _ _ _ ⟨e148, rfl, rfl⟩
     replace h := ite_f c145 h
     obtain ⟨t151, wt151, h⟩ := bind_some' h
     obtain ⟨t157, wt157, h⟩ := bind_some' h
     obtain rfl := Option.some.inj h
     refine G.drawN 16 mixed (by kernel_rfl) ?_
     refine tn 0 rfl hQ (fun S₀ X₀ e₀ => Y.loadB (X₀.length + 0)  0 4 [sV (.int .i64 t128.len), sL t128.bits, sL t128.sum, sV (.int .i64 t128.at_)] rfl (Lk rfl) rfl rfl row45 (by kernel_rfl)) ?_
     refine tn 1 rfl hQ (fun S₀ X₀ e₀ => Y.loadB (X₀.length + 9)  0 1 [sL a1] rfl (Lk rfl) rfl rfl row23 (by kernel_rfl)) ?_
     refine g1 2 ?_
     refine n1 rfl (cl fb61 (r18_has_ok t128 a1 wt139) (fun v163 S164 e165 z166 => ⟨⟨[], .refl, e165⟩, ?_⟩))
     have q167 := q2.up e165
     obtain rfl := z166
     refine tn 3 rfl hQ (fun _ _ _ => Y.not rfl) ?_
     refine tn 4 rfl hQ (fun _ _ _ => Y.move rfl) ?_
     refine tw 5 rfl .refl hQ (gi 124 c145) (fun S₀ X₀ e₀ => Y.loadB (X₀.length + 9)  0 1 [sL a1] rfl (Lk rfl) rfl rfl row23 (by kernel_rfl)) ?_
     refine tw 6 rfl .refl hQ (gi 124 c145) (fun _ _ _ => Y.fieldAddr 0 rfl fld45_0 rfl) ?_
     refine tw 7 rfl .refl hQ (gi 124 c145) (fun S₀ X₀ e₀ => Y.loadV (X₀.length + 0)  0 _ rfl (Lk rfl) rfl rfl one3) ?_
     refine tw 9 rfl .refl hQ (gi 124 c145) (fun _ _ _ => Y.fieldAddr 1 rfl fld45_1 rfl) ?_
     refine tw 10 rfl .refl hQ (gi 124 c145) (fun S₀ X₀ e₀ => Y.loadB (X₀.length + 3)  1 1 [sL ((getI x67 (wrap64 ((lenI x67) - (1 : Int)))).bits)] rfl (Lk rfl) rfl rfl row23 (by kernel_rfl)) ?_
     refine tw 11 rfl .refl hQ (gi 124 c145) (fun _ _ _ => Y.fieldAddr 0 rfl fld45_0 rfl) ?_
     refine tw 12 rfl .refl hQ (gi 124 c145) (fun S₀ X₀ e₀ => Y.loadV (X₀.length + 0)  0 _ rfl (Lk rfl) rfl rfl one3) ?_
     refine g1 8 ?_
     refine GD1.on rfl (gi 124 c145) (by kernel_rfl) (cl fb63 (r01_Bit_ok a1 t128.len wt151) (fun v168 S169 e170 z171 => ⟨⟨[], .refl, (l2 e165 e170)⟩, ?_⟩))
     have q172 := q167.up e170
     obtain rfl := z171
     refine g1 13 ?_
     refine GD1.on rfl (gi 124 c145) (by kernel_rfl) (cl fb63 (r01_Bit_ok ((getI x67 (wrap64 ((lenI x67) - (1 : Int)))).bits) t128.len wt157) (fun v173 S174 e175 z176 => ⟨⟨[], .refl, (l2 e165 (l2 e170 e175))⟩, ?_⟩))
     have q177 := q172.up e175
     obtain rfl := z176
     refine tw 14 rfl .refl hQ (gi 124 c145) (fun _ _ _ => Y.neI rfl rfl) ?_
     refine tn 15 rfl hQ (fun _ _ _ => Y.pickF _ c145 rfl rfl) ?_
     refine dn ?_
     refine GX.keep [135, 16, 14, 13, 91, 90, 89, 8, 7, 3] rfl ?_
     exact hK137 _ _ _ ⟨(l2 e165 (l2 e170 e175)), rfl, rfl⟩
    rintro _ S178 _ ⟨e179, rfl, rfl⟩
    replace q2 := q2.up e179
    refine GX.then hK136 ?_
    refine G.cond _ rfl (fun c180 => ?_) (fun c180 => ?_)
    ·replace h := ite_t c180 h
     refine sr (fun _ hK181 => ?_)
     refine an ?_
     refine an ?_
     refine an ?_
     refine nt hK181 ?_
     refine G.ret ?_
     obtain rfl := Option.some.inj h
     obtain rfl := hf1 _ rfl
     have h := ho73
     try dsimp only at h
     obtain rfl := Option.some.inj h
     exact hret _ _ _ _ 11 (l2 e40 (l2 e47 (l2 e56 (l2 e65 (l2 e108 (l2 e114 (l2 e122 (l2 e131 e179)))))))) (.cons (.tmp rfl) (.cons (.tmp rfl) (.cons (.tmp rfl) .nil))) ⟨_, _, rfl, (Sls.nil (α := Str) _), (Sls.nil (α := Item) _)⟩ rfl
    replace h := ite_f c180 h
    refine sk hK135 ?_
    refine sr (fun _ hK182 => ?_)
    refine mv ?_
    refine lb 2 0 4 [sV (.int .i64 ((getI a0.path x66).len)), sL ((getI a0.path x66).bits), sL ((getI a0.path x66).sum), sV (.int .i64 ((getI a0.path x66).at_))] row45 ?_
    refine lb 1 0 4 [sV (.int .i64 ((getI x67 (wrap64 ((lenI x67) - (1 : Int)))).len)), sL ((getI x67 (wrap64 ((lenI x67) - (1 : Int)))).bits), sL ((getI x67 (wrap64 ((lenI x67) - (1 : Int)))).sum), sV (.int .i64 ((getI x67 (wrap64 ((lenI x67) - (1 : Int)))).at_))] row45 ?_
    obtain ⟨t183, wt183, h⟩ := bind_some' h
    refine st (cl fb59 (r15_InnerBytes_ok (getI a0.path x66) (getI x67 (wrap64 ((lenI x67) - (1 : Int)))) wt183) (fun v184 S185 e186 z187 => ?_))
    replace q2 := q2.up e186
    obtain rfl := z187
    refine bs ([t183] : List Str) el58 (fun v188 => ?_)
    obtain ⟨g190, h⟩ := req_bind h
    refine st (OS.append (xs := x69) (ys := ([t183] : List Str)) 9 (by decide) rfl rfl rfl (Rw.src (k := 0) rfl) el58 src58 g190 (fun v191 => ?_))
    refine an ?_
    refine nt hK182 ?_
    refine G.region ?_
    refine mv ?_
    refine lb 1 0 4 [sV (.int .i64 t128.len), sL t128.bits, sL t128.sum, sV (.int .i64 t128.at_)] row45 ?_
    refine bs ([t128] : List Item) el46 (fun v192 => ?_)
    obtain ⟨g194, h⟩ := req_bind h
    refine st (OS.append (xs := x67) (ys := ([t128] : List Item)) 9 (by decide) rfl rfl rfl (Rw.src (k := 0) rfl) el46 src46 g194 (fun v195 => ?_))
    refine an ?_
    refine GO.nil ?_
    refine GX.normal_block ?_
    refine GX.then hK77 ?_
    refine G.region ?_
    refine vl (Y.addI rfl rfl) ?_
    refine mv ?_
    refine GO.nil ?_
    obtain rfl := Option.some.inj h
    refine GX.keep [91, 90, 89, 8, 7, 3] rfl ?_
    refine GX.less 7 rfl ?_
    exact hK1 _ _ _ _ rfl ⟨(l2 e65 (l2 e108 (l2 e114 (l2 e122 (l2 e131 (l2 e179 e186)))))), v195, v191, rfl, rfl⟩
   replace h := ite_f c116 h
   refine sk hK109 ?_
   refine G.seq (fun _ hK196 => ?_)
   refine sr (fun _ hK197 => ?_)
   refine lb 1 0 4 [sV (.int .i64 ((getI x67 (wrap64 ((lenI x67) - (1 : Int)))).len)), sL ((getI x67 (wrap64 ((lenI x67) - (1 : Int)))).bits), sL ((getI x67 (wrap64 ((lenI x67) - (1 : Int)))).sum), sV (.int .i64 ((getI x67 (wrap64 ((lenI x67) - (1 : Int)))).at_))] row45 ?_
   refine lb 0 0 4 [sV (.int .i64 ((getI a0.path x66).len)), sL ((getI a0.path x66).bits), sL ((getI a0.path x66).sum), sV (.int .i64 ((getI a0.path x66).at_))] row45 ?_
   obtain ⟨t198, wt198, h⟩ := bind_some' h
   refine st (cl fb58 (r15_Check_ok (getI x67 (wrap64 ((lenI x67) - (1 : Int)))) (getI a0.path x66) wt198) (fun v199 S200 e201 z202 => ?_))
   replace q2 := q2.up e201
   obtain rfl := z202
   refine an ?_
   refine nt hK197 ?_
   refine sr (fun _ hK203 => ?_)
   refine mv ?_
   refine vl (Y.neI rfl rfl) ?_
   refine nt hK203 ?_
   refine G.cond _ rfl (fun c204 => ?_) (fun c204 => ?_)
   ·replace h := ite_t c204 h
    refine sr (fun _ hK205 => ?_)
    refine mv ?_
    refine an ?_
    refine an ?_
    refine an ?_
    refine nt hK205 ?_
    refine G.ret ?_
    obtain rfl := Option.some.inj h
    obtain rfl := hf1 _ rfl
    have h := ho73
    try dsimp only at h
    obtain rfl := Option.some.inj h
    exact hret _ _ _ _ 10 (l2 e40 (l2 e47 (l2 e56 (l2 e65 (l2 e108 (l2 e114 e201)))))) (.cons (.tmp rfl) (.cons (.tmp rfl) (.cons (.tmp rfl) .nil))) ⟨_, _, rfl, (Sls.nil (α := Str) _), (Sls.nil (α := Item) _)⟩ rfl
   replace h := ite_f c204 h
   refine sk hK196 ?_
   refine sr (fun _ hK206 => ?_)
   refine lb 1 0 4 [sV (.int .i64 ((getI x67 (wrap64 ((lenI x67) - (1 : Int)))).len)), sL ((getI x67 (wrap64 ((lenI x67) - (1 : Int)))).bits), sL ((getI x67 (wrap64 ((lenI x67) - (1 : Int)))).sum), sV (.int .i64 ((getI x67 (wrap64 ((lenI x67) - (1 : Int)))).at_))] row45 ?_
   refine lb 0 0 4 [sV (.int .i64 ((getI a0.path x66).len)), sL ((getI a0.path x66).bits), sL ((getI a0.path x66).sum), sV (.int .i64 ((getI a0.path x66).at_))] row45 ?_
   obtain ⟨t207, wt207, h⟩ := bind_some' h
   refine st (cl fb60 (r16_Inner_ok (getI x67 (wrap64 ((lenI x67) - (1 : Int)))) (getI a0.path x66) wt207) (fun v208 S209 e210 z211 => ?_))
   replace q2 := q2.up e210
   obtain rfl := z211
   refine st (OS.alloc _ (by decide) zero45 (fun ad212 => ?_))
   refine sf 0 4 [sV (.int .i64 t207.len), sL t207.bits, sL t207.sum, sV (.int .i64 t207.at_)] (aggV_cells _) (oI (oL (oL (oI oN)))) size45 ?_
   refine nt hK206 ?_
   refine G.seq (fun _ hK214 => ?_)
   refine G.seq (fun _ hK215 => ?_)
   obtain ⟨b217, wb217, h⟩ := bind_some' h
   refine G.cut (fun E₀ S₀ L₀ => S209.le S₀ ∧ E₀ = [(135, .bool b217), (16, .pointer (some ⟨ad212, 0, none⟩)), (14, .pointer (some ⟨ad97, 0, none⟩)), (13, .pointer (some ⟨ad95, 0, none⟩)), (91, .int .i64 x66), (90, .int .i64 (lenI a0.path)), (89, v1), (8, v68), (7, v70), (3, .pointer (some ⟨ad6, 0, none⟩))] ∧ Blk ad212 [sV (.int .i64 t207.len), sL t207.bits, sL t207.sum, sV (.int .i64 t207.at_)] :: Blk ad97 [sV (.int .i64 ((getI a0.path x66).len)), sL ((getI a0.path x66).bits), sL ((getI a0.path x66).sum), sV (.int .i64 ((getI a0.path x66).at_))] :: Blk ad95 [sV (.int .i64 ((getI x67 (wrap64 ((lenI x67) - (1 : Int)))).len)), sL ((getI x67 (wrap64 ((lenI x67) - (1 : Int)))).bits), sL ((getI x67 (wrap64 ((lenI x67) - (1 : Int)))).sum), sV (.int .i64 ((getI x67 (wrap64 ((lenI x67) - (1 : Int)))).at_))] :: Blk ad91 [sV (.int .i64 ((getI x67 (wrap64 ((lenI x67) - (1 : Int)))).len)), sL ((getI x67 (wrap64 ((lenI x67) - (1 : Int)))).bits), sL ((getI x67 (wrap64 ((lenI x67) - (1 : Int)))).sum), sV (.int .i64 ((getI x67 (wrap64 ((lenI x67) - (1 : Int)))).at_))] :: Blk ad84 [sV (.int .i64 ((getI a0.path x66).len)), sL ((getI a0.path x66).bits), sL ((getI a0.path x66).sum), sV (.int .i64 ((getI a0.path x66).at_))] :: Rw v58 ([t53] : List Item) :: Rw v49 ([t44] : List Str) :: Rw v68 x67 :: Rw v70 x69 :: Blk ad6 [sL a1] :: Blk ad4 [sV (.int .i64 a0.end_), sL a0.leaf.label, sL a0.leaf.value, sV (.int .i64 a0.leaf.at_), sV (.int .i64 a0.a.len), sL a0.a.bits, sL a0.a.sum, sV (.int .i64 a0.a.at_), sV (.int .i64 a0.b.len), sL a0.b.bits, sL a0.b.sum, sV (.int .i64 a0.b.at_), sV v1] :: F = L₀) (fun K216 hK216 => ?_) ?_
   ·replace h := wb217
    obtain ⟨t218, wt218, h⟩ := bind_some' h
    rcases Bool.eq_false_or_eq_true (!t218) with c224 | c224
    ·replace h := ite_t c224 h
     obtain rfl := Option.some.inj h
     refine G.drawN 16 mixed (by kernel_rfl) ?_
     refine tn 0 rfl hQ (fun S₀ X₀ e₀ => Y.loadB (X₀.length + 0)  0 4 [sV (.int .i64 t207.len), sL t207.bits, sL t207.sum, sV (.int .i64 t207.at_)] rfl (Lk rfl) rfl rfl row45 (by kernel_rfl)) ?_
     refine tn 1 rfl hQ (fun S₀ X₀ e₀ => Y.loadB (X₀.length + 9)  0 1 [sL a1] rfl (Lk rfl) rfl rfl row23 (by kernel_rfl)) ?_
     refine g1 2 ?_
     refine n1 rfl (cl fb61 (r18_has_ok t207 a1 wt218) (fun v225 S226 e227 z228 => ⟨⟨[], .refl, e227⟩, ?_⟩))
     have q229 := q2.up e227
     obtain rfl := z228
     refine tn 3 rfl hQ (fun _ _ _ => Y.not rfl) ?_
     refine tn 4 rfl hQ (fun _ _ _ => Y.move rfl) ?_
     refine tf 5 rfl .refl hQ (gn 124 c224) ?_
     refine tf 6 rfl .refl hQ (gn 124 c224) ?_
     refine tf 7 rfl .refl hQ (gn 124 c224) ?_
     refine tf 8 rfl .refl hQ (gn 124 c224) ?_
     refine tf 9 rfl .refl hQ (gn 124 c224) ?_
     refine tf 10 rfl .refl hQ (gn 124 c224) ?_
     refine tf 11 rfl .refl hQ (gn 124 c224) ?_
     refine tf 12 rfl .refl hQ (gn 124 c224) ?_
     refine tf 13 rfl .refl hQ (gn 124 c224) ?_
     refine tf 14 rfl .refl hQ (gn 124 c224) ?_
     refine tn 15 rfl hQ (fun _ _ _ => Y.pickT _ c224 rfl rfl) ?_
     refine dn ?_
     refine GX.keep [135, 16, 14, 13, 91, 90, 89, 8, 7, 3] rfl ?_
     exact hK216 _ _ _ ⟨e227, rfl, rfl⟩
    replace h := ite_f c224 h
    obtain ⟨t230, wt230, h⟩ := bind_some' h
    obtain ⟨t236, wt236, h⟩ := bind_some' h
    obtain rfl := Option.some.inj h
    refine G.drawN 16 mixed (by kernel_rfl) ?_
    refine tn 0 rfl hQ (fun S₀ X₀ e₀ => Y.loadB (X₀.length + 0)  0 4 [sV (.int .i64 t207.len), sL t207.bits, sL t207.sum, sV (.int .i64 t207.at_)] rfl (Lk rfl) rfl rfl row45 (by kernel_rfl)) ?_
    refine tn 1 rfl hQ (fun S₀ X₀ e₀ => Y.loadB (X₀.length + 9)  0 1 [sL a1] rfl (Lk rfl) rfl rfl row23 (by kernel_rfl)) ?_
    refine g1 2 ?_
    refine n1 rfl (cl fb61 (r18_has_ok t207 a1 wt218) (fun v242 S243 e244 z245 => ⟨⟨[], .refl, e244⟩, ?_⟩))
    have q246 := q2.up e244
    obtain rfl := z245
    refine tn 3 rfl hQ (fun _ _ _ => Y.not rfl) ?_
    refine tn 4 rfl hQ (fun _ _ _ => Y.move rfl) ?_
    refine tw 5 rfl .refl hQ (gi 124 c224) (fun S₀ X₀ e₀ => Y.loadB (X₀.length + 9)  0 1 [sL a1] rfl (Lk rfl) rfl rfl row23 (by kernel_rfl)) ?_
    refine tw 6 rfl .refl hQ (gi 124 c224) (fun _ _ _ => Y.fieldAddr 0 rfl fld45_0 rfl) ?_
    refine tw 7 rfl .refl hQ (gi 124 c224) (fun S₀ X₀ e₀ => Y.loadV (X₀.length + 0)  0 _ rfl (Lk rfl) rfl rfl one3) ?_
    refine tw 9 rfl .refl hQ (gi 124 c224) (fun _ _ _ => Y.fieldAddr 1 rfl fld45_1 rfl) ?_
    refine tw 10 rfl .refl hQ (gi 124 c224) (fun S₀ X₀ e₀ => Y.loadB (X₀.length + 3)  1 1 [sL ((getI x67 (wrap64 ((lenI x67) - (1 : Int)))).bits)] rfl (Lk rfl) rfl rfl row23 (by kernel_rfl)) ?_
    refine tw 11 rfl .refl hQ (gi 124 c224) (fun _ _ _ => Y.fieldAddr 0 rfl fld45_0 rfl) ?_
    refine tw 12 rfl .refl hQ (gi 124 c224) (fun S₀ X₀ e₀ => Y.loadV (X₀.length + 0)  0 _ rfl (Lk rfl) rfl rfl one3) ?_
    refine g1 8 ?_
    refine GD1.on rfl (gi 124 c224) (by kernel_rfl) (cl fb63 (r01_Bit_ok a1 t207.len wt230) (fun v247 S248 e249 z250 => ⟨⟨[], .refl, (l2 e244 e249)⟩, ?_⟩))
    have q251 := q246.up e249
    obtain rfl := z250
    refine g1 13 ?_
    refine GD1.on rfl (gi 124 c224) (by kernel_rfl) (cl fb63 (r01_Bit_ok ((getI x67 (wrap64 ((lenI x67) - (1 : Int)))).bits) t207.len wt236) (fun v252 S253 e254 z255 => ⟨⟨[], .refl, (l2 e244 (l2 e249 e254))⟩, ?_⟩))
    have q256 := q251.up e254
    obtain rfl := z255
    refine tw 14 rfl .refl hQ (gi 124 c224) (fun _ _ _ => Y.neI rfl rfl) ?_
    refine tn 15 rfl hQ (fun _ _ _ => Y.pickF _ c224 rfl rfl) ?_
    refine dn ?_
    refine GX.keep [135, 16, 14, 13, 91, 90, 89, 8, 7, 3] rfl ?_
    exact hK216 _ _ _ ⟨(l2 e244 (l2 e249 e254)), rfl, rfl⟩
   rintro _ S257 _ ⟨e258, rfl, rfl⟩
   replace q2 := q2.up e258
   refine GX.then hK215 ?_
   refine G.cond _ rfl (fun c259 => ?_) (fun c259 => ?_)
   ·replace h := ite_t c259 h
    refine sr (fun _ hK260 => ?_)
    refine an ?_
    refine an ?_
    refine an ?_
    refine nt hK260 ?_
    refine G.ret ?_
    obtain rfl := Option.some.inj h
    obtain rfl := hf1 _ rfl
    have h := ho73
    try dsimp only at h
    obtain rfl := Option.some.inj h
    exact hret _ _ _ _ 11 (l2 e40 (l2 e47 (l2 e56 (l2 e65 (l2 e108 (l2 e114 (l2 e201 (l2 e210 e258)))))))) (.cons (.tmp rfl) (.cons (.tmp rfl) (.cons (.tmp rfl) .nil))) ⟨_, _, rfl, (Sls.nil (α := Str) _), (Sls.nil (α := Item) _)⟩ rfl
   replace h := ite_f c259 h
   refine sk hK214 ?_
   refine sr (fun _ hK261 => ?_)
   refine mv ?_
   refine lb 2 0 4 [sV (.int .i64 ((getI x67 (wrap64 ((lenI x67) - (1 : Int)))).len)), sL ((getI x67 (wrap64 ((lenI x67) - (1 : Int)))).bits), sL ((getI x67 (wrap64 ((lenI x67) - (1 : Int)))).sum), sV (.int .i64 ((getI x67 (wrap64 ((lenI x67) - (1 : Int)))).at_))] row45 ?_
   refine lb 1 0 4 [sV (.int .i64 ((getI a0.path x66).len)), sL ((getI a0.path x66).bits), sL ((getI a0.path x66).sum), sV (.int .i64 ((getI a0.path x66).at_))] row45 ?_
   obtain ⟨t262, wt262, h⟩ := bind_some' h
   refine st (cl fb59 (r15_InnerBytes_ok (getI x67 (wrap64 ((lenI x67) - (1 : Int)))) (getI a0.path x66) wt262) (fun v263 S264 e265 z266 => ?_))
   replace q2 := q2.up e265
   obtain rfl := z266
   refine bs ([t262] : List Str) el58 (fun v267 => ?_)
   obtain ⟨g269, h⟩ := req_bind h
   refine st (OS.append (xs := x69) (ys := ([t262] : List Str)) 9 (by decide) rfl rfl rfl (Rw.src (k := 0) rfl) el58 src58 g269 (fun v270 => ?_))
   refine an ?_
   refine nt hK261 ?_
   refine G.region ?_
   refine mv ?_
   refine lb 1 0 4 [sV (.int .i64 t207.len), sL t207.bits, sL t207.sum, sV (.int .i64 t207.at_)] row45 ?_
   refine bs ([t207] : List Item) el46 (fun v271 => ?_)
   obtain ⟨g273, h⟩ := req_bind h
   refine st (OS.append (xs := x67) (ys := ([t207] : List Item)) 9 (by decide) rfl rfl rfl (Rw.src (k := 0) rfl) el46 src46 g273 (fun v274 => ?_))
   refine an ?_
   refine GO.nil ?_
   refine GX.normal_block ?_
   refine GX.then hK77 ?_
   refine G.region ?_
   refine vl (Y.addI rfl rfl) ?_
   refine mv ?_
   refine GO.nil ?_
   obtain rfl := Option.some.inj h
   refine GX.keep [91, 90, 89, 8, 7, 3] rfl ?_
   refine GX.less 7 rfl ?_
   exact hK1 _ _ _ _ rfl ⟨(l2 e65 (l2 e108 (l2 e114 (l2 e201 (l2 e210 (l2 e258 e265)))))), v274, v270, rfl, rfl⟩
  replace h := ite_f c76 h
  refine G.exit ?_
  refine GX.exit_then ?_
  obtain rfl := Option.some.inj h
  refine GX.keep [8, 7] rfl ?_
  exact hx71 _ _ _ ⟨_, _, _, _, _, e65, (hf1 _ rfl).symm, rfl, rfl⟩
 replace h := ite_f c33 h
 refine sr (fun _ hK284 => ?_)
 refine vl (Y.eqI rfl rfl) ?_
 refine an ?_
 refine nt hK284 ?_
 refine G.cond _ rfl (fun c285 => ?_) (fun c285 => ?_)
 ·replace h := ite_t c285 h
  refine G.seq (fun _ hK286 => ?_)
  refine sr (fun _ hK287 => ?_)
  refine vl (Y.fieldAddr 66 rfl fld48_2 rfl) ?_
  refine lb 3 4 4 [sV (.int .i64 a0.a.len), sL a0.a.bits, sL a0.a.sum, sV (.int .i64 a0.a.at_)] row45 ?_
  refine vl (Y.fieldAddr 132 rfl fld48_3 rfl) ?_
  refine lb 3 8 4 [sV (.int .i64 a0.b.len), sL a0.b.bits, sL a0.b.sum, sV (.int .i64 a0.b.at_)] row45 ?_
  obtain ⟨t288, wt288, h⟩ := bind_some' h
  refine st (cl fb58 (r15_Check_ok a0.a a0.b wt288) (fun v289 S290 e291 z292 => ?_))
  replace q2 := q2.up e291
  obtain rfl := z292
  refine an ?_
  refine nt hK287 ?_
  refine sr (fun _ hK293 => ?_)
  refine mv ?_
  refine vl (Y.neI rfl rfl) ?_
  refine nt hK293 ?_
  refine G.cond _ rfl (fun c294 => ?_) (fun c294 => ?_)
  ·replace h := ite_t c294 h
   refine sr (fun _ hK295 => ?_)
   refine mv ?_
   refine an ?_
   refine an ?_
   refine an ?_
   refine nt hK295 ?_
   refine G.ret ?_
   obtain rfl := Option.some.inj h
   exact hret _ _ _ _ 4 e291 (.cons (.tmp rfl) (.cons (.tmp rfl) (.cons (.tmp rfl) .nil))) ⟨_, _, rfl, (Sls.nil (α := Str) _), (Sls.nil (α := Item) _)⟩ rfl
  replace h := ite_f c294 h
  refine sk hK286 ?_
  refine sr (fun _ hK296 => ?_)
  refine mv ?_
  refine vl (Y.fieldAddr 66 rfl fld48_2 rfl) ?_
  refine lb 3 4 4 [sV (.int .i64 a0.a.len), sL a0.a.bits, sL a0.a.sum, sV (.int .i64 a0.a.at_)] row45 ?_
  refine vl (Y.fieldAddr 132 rfl fld48_3 rfl) ?_
  refine lb 3 8 4 [sV (.int .i64 a0.b.len), sL a0.b.bits, sL a0.b.sum, sV (.int .i64 a0.b.at_)] row45 ?_
  obtain ⟨t297, wt297, h⟩ := bind_some' h
  refine st (cl fb59 (r15_InnerBytes_ok a0.a a0.b wt297) (fun v298 S299 e300 z301 => ?_))
  replace q2 := q2.up e300
  obtain rfl := z301
  refine bs ([t297] : List Str) el58 (fun v302 => ?_)
  obtain ⟨g304, h⟩ := req_bind h
  refine st (OS.append (xs := ([] : List Str)) (ys := ([t297] : List Str)) 2 (by decide) rfl rfl rfl (Rw.src (k := 0) rfl) el58 src58 g304 (fun v305 => ?_))
  refine an ?_
  refine nt hK296 ?_
  refine sr (fun _ hK306 => ?_)
  refine mv ?_
  refine vl (Y.fieldAddr 66 rfl fld48_2 rfl) ?_
  refine lb 4 4 4 [sV (.int .i64 a0.a.len), sL a0.a.bits, sL a0.a.sum, sV (.int .i64 a0.a.at_)] row45 ?_
  refine vl (Y.fieldAddr 132 rfl fld48_3 rfl) ?_
  refine lb 4 8 4 [sV (.int .i64 a0.b.len), sL a0.b.bits, sL a0.b.sum, sV (.int .i64 a0.b.at_)] row45 ?_
  obtain ⟨t307, wt307, h⟩ := bind_some' h
  refine st (cl fb60 (r16_Inner_ok a0.a a0.b wt307) (fun v308 S309 e310 z311 => ?_))
  replace q2 := q2.up e310
  obtain rfl := z311
  refine bs ([t307] : List Item) el46 (fun v312 => ?_)
  obtain ⟨g314, h⟩ := req_bind h
  refine st (OS.append (xs := ([] : List Item)) (ys := ([t307] : List Item)) 2 (by decide) rfl rfl rfl (Rw.src (k := 0) rfl) el46 src46 g314 (fun v315 => ?_))
  refine an ?_
  refine nt hK306 ?_
  refine G.seq (fun _ hK316 => ?_)
  obtain ⟨g317, h⟩ := req_bind h
  refine G.rowAt 2 rfl g317 (fun ad318 p319 z320 => ?_)
  obtain ⟨t321, wt321, h⟩ := bind_some' h
  refine G.drawN 5 mixed (by kernel_rfl) ?_
  refine tn 0 rfl hQ (fun _ _ _ => Y.move rfl) ?_
  refine tn 1 rfl hQ (fun _ _ _ => Y.idxR rfl z320 rfl slc46 g317) ?_
  refine tn 2 rfl hQ (fun S₀ X₀ e₀ => Y.loadRow (X₀.length + 2)  (0 : Int) 0 4 [sV (.int .i64 ((getI (([] : List Item) ++ ([t307] : List Item)) (0 : Int)).len)), sL ((getI (([] : List Item) ++ ([t307] : List Item)) (0 : Int)).bits), sL ((getI (([] : List Item) ++ ([t307] : List Item)) (0 : Int)).sum), sV (.int .i64 ((getI (([] : List Item) ++ ([t307] : List Item)) (0 : Int)).at_))] rfl (Lk rfl) z320 g317 rfl rfl row45 (by kernel_rfl)) ?_
  refine tn 3 rfl hQ (fun S₀ X₀ e₀ => Y.loadB (X₀.length + 4)  0 1 [sL a1] rfl (Lk rfl) rfl rfl row23 (by kernel_rfl)) ?_
  refine g1 4 ?_
  refine n1 rfl (cl fb61 (r18_has_ok (getI (([] : List Item) ++ ([t307] : List Item)) (0 : Int)) a1 wt321) (fun v327 S328 e329 z330 => ⟨⟨[], .refl, e329⟩, ?_⟩))
  have q331 := q2.up e329
  obtain rfl := z330
  refine dn ?_
  refine GX.then hK316 ?_
  refine G.cond _ rfl (fun c332 => ?_) (fun c332 => ?_)
  ·replace h := ite_t c332 h
   refine sr (fun _ hK333 => ?_)
   refine an ?_
   refine an ?_
   refine an ?_
   refine nt hK333 ?_
   refine G.ret ?_
   obtain rfl := Option.some.inj h
   exact hret _ _ _ _ 6 (l2 e291 (l2 e300 (l2 e310 e329))) (.cons (.tmp rfl) (.cons (.tmp rfl) (.cons (.tmp rfl) .nil))) ⟨_, _, rfl, (Sls.nil (α := Str) _), (Sls.nil (α := Item) _)⟩ rfl
  replace h := ite_f c332 h
  refine G.skip ?_
  refine GX.normal_block ?_
  refine GX.then hK17 ?_
  refine G.seq (fun _ hK334 => ?_)
  refine sr (fun _ hK335 => ?_)
  refine vl (Y.fieldAddr 198 rfl fld48_4 rfl) ?_
  refine lv 5 12 one46 ?_
  refine vl (Y.lenS rfl q331 slc46) ?_
  refine mv ?_
  refine nt hK335 ?_
  refine G.block ?_
  obtain ⟨b344, wb344, ho345⟩ := bind_some' h
  refine G.keep [91, 90, 89, 8, 7, 3] rfl ?_
  refine G.loopK (r18_Nodes_s2 a0 a1) (fun s₀ E' S' L' => match s₀ with | (x338, x339, x341) => S328.le S' ∧ ∃ (v340 : Value) (v342 : Value), E' = [(91, .int .i64 x338), (90, .int .i64 (lenI a0.path)), (89, v1), (8, v340), (7, v342), (3, .pointer (some ⟨ad6, 0, none⟩))] ∧ Rw v312 ([t307] : List Item) :: Rw v302 ([t297] : List Str) :: Rw v340 x339 :: Rw v342 x341 :: Blk ad6 [sL a1] :: Blk ad4 [sV (.int .i64 a0.end_), sL a0.leaf.label, sL a0.leaf.value, sV (.int .i64 a0.leaf.at_), sV (.int .i64 a0.a.len), sL a0.a.bits, sL a0.a.sum, sV (.int .i64 a0.a.at_), sV (.int .i64 a0.b.len), sL a0.b.bits, sL a0.b.sum, sV (.int .i64 a0.b.at_), sV v1] :: F = L') b344 1 (fun E₀ S₀ L₀ => ∃ (x338 : Int) (x339 : (List Item)) (x341 : (List Str)) (v340 : Value) (v342 : Value), S328.le S₀ ∧ b344 = .inr (x338, x339, x341) ∧ E₀ = [(8, v340), (7, v342)] ∧ Rw v312 ([t307] : List Item) :: Rw v302 ([t297] : List Str) :: Rw v340 x339 :: Rw v342 x341 :: Blk ad6 [sL a1] :: Blk ad4 [sV (.int .i64 a0.end_), sL a0.leaf.label, sL a0.leaf.value, sV (.int .i64 a0.leaf.at_), sV (.int .i64 a0.a.len), sL a0.a.bits, sL a0.a.sum, sV (.int .i64 a0.a.at_), sV (.int .i64 a0.b.len), sL a0.b.bits, sL a0.b.sum, sV (.int .i64 a0.b.at_), sV v1] :: F = L₀) wb344 ?_ ?_ ?_
  ·rintro _ S547 _ ⟨x338, x339, x341, v340, v342, e548, rfl, rfl, rfl⟩
   have h := ho345; clear ho345
   try dsimp only at h
   replace q331 := q331.up e548
   refine GX.exit_block ?_
   refine GX.then hK334 ?_
   refine sr (fun _ hK549 => ?_)
   refine mv ?_
   refine mv ?_
   refine an ?_
   refine an ?_
   refine an ?_
   refine nt hK549 ?_
   refine G.ret ?_
   refine GX.shareR 3 rfl (fun S550 e551 q552 => ?_)
   replace q331 := q331.up e551
   refine GX.shareR 2 rfl (fun S553 e554 q555 => ?_)
   replace q552 := q552.up e554
   replace q331 := q331.up e554
   obtain rfl := Option.some.inj h
   exact hret _ _ _ _ 6 (l2 e291 (l2 e300 (l2 e310 (l2 e329 (l2 e548 (l2 e551 e554)))))) (.cons (.tmp rfl) (.cons (.tmp rfl) (.cons (.tmp rfl) .nil))) ⟨_, _, rfl, q552, q555⟩ rfl
  ·exact ⟨Hp.le_refl _, v315, v305, rfl, rfl⟩
  rintro ⟨x338, x339, x341⟩ _ S336 _ ⟨e337, v340, v342, rfl, rfl⟩ out2 h hf2 K2 hK2 hx343
  rw [r18_Nodes_s2] at h
  replace q331 := q331.up e337
  refine sr (fun _ hK346 => ?_)
  refine vl (Y.ltI rfl rfl) ?_
  refine nt hK346 ?_
  refine G.seq (fun _ hK347 => ?_)
  refine G.cond _ rfl (fun c348 => ?_) (fun c348 => ?_)
  ·replace h := ite_t c348 h
   refine sk hK347 ?_
   refine G.seq (fun _ hK349 => ?_)
   refine G.block ?_
   refine sr (fun _ hK350 => ?_)
   obtain ⟨g351, h⟩ := req_bind h
   obtain ⟨ad352, p353, z354, q355⟩ := Sls.at q331 g351
   refine vl (Y.idxS rfl z354 rfl slc46 g351) ?_
   refine vl (Y.loadS [sV (.int .i64 ((getI a0.path x338).len)), sL ((getI a0.path x338).bits), sL ((getI a0.path x338).sum), sV (.int .i64 ((getI a0.path x338).at_))] rfl (At.part q355 0 4 _ rfl rfl) row45 (by kernel_rfl)) ?_
   refine st (OS.alloc _ (by decide) zero45 (fun ad356 => ?_))
   refine sf 0 4 [sV (.int .i64 ((getI a0.path x338).len)), sL ((getI a0.path x338).bits), sL ((getI a0.path x338).sum), sV (.int .i64 ((getI a0.path x338).at_))] (aggV_cells _) (oI (oL (oL (oI oN)))) size45 ?_
   refine nt hK350 ?_
   refine sr (fun _ hK358 => ?_)
   refine mv ?_
   refine mv ?_
   refine vl (Y.lenR 3  rfl rfl slc46) ?_
   refine vl (Y.subI rfl rfl) ?_
   obtain ⟨g359, h⟩ := req_bind h
   refine GO.rowAt 3 rfl g359 (fun ad360 p361 z362 => ?_)
   refine vl (Y.idxR rfl z362 rfl slc46 g359) ?_
   refine vl (Y.loadRow 3  (wrap64 ((lenI x339) - (1 : Int))) 0 4 [sV (.int .i64 ((getI x339 (wrap64 ((lenI x339) - (1 : Int)))).len)), sL ((getI x339 (wrap64 ((lenI x339) - (1 : Int)))).bits), sL ((getI x339 (wrap64 ((lenI x339) - (1 : Int)))).sum), sV (.int .i64 ((getI x339 (wrap64 ((lenI x339) - (1 : Int)))).at_))] rfl rfl z362 g359 rfl rfl row45 (by kernel_rfl)) ?_
   refine st (OS.alloc _ (by decide) zero45 (fun ad363 => ?_))
   refine sf 0 4 [sV (.int .i64 ((getI x339 (wrap64 ((lenI x339) - (1 : Int)))).len)), sL ((getI x339 (wrap64 ((lenI x339) - (1 : Int)))).bits), sL ((getI x339 (wrap64 ((lenI x339) - (1 : Int)))).sum), sV (.int .i64 ((getI x339 (wrap64 ((lenI x339) - (1 : Int)))).at_))] (aggV_cells _) (oI (oL (oL (oI oN)))) size45 ?_
   refine nt hK358 ?_
   refine G.seq (fun _ hK365 => ?_)
   refine G.cut (fun E₀ S₀ L₀ => ∃ (ad369 : Nat) (ad367 : Nat), S336.le S₀ ∧ E₀ = [(14, .pointer (some ⟨ad369, 0, none⟩)), (13, .pointer (some ⟨ad367, 0, none⟩)), (12, .pointer (some ⟨ad363, 0, none⟩)), (11, .pointer (some ⟨ad356, 0, none⟩)), (91, .int .i64 x338), (90, .int .i64 (lenI a0.path)), (89, v1), (8, v340), (7, v342), (3, .pointer (some ⟨ad6, 0, none⟩))] ∧ Blk ad369 [sV (.int .i64 ((getI a0.path x338).len)), sL ((getI a0.path x338).bits), sL ((getI a0.path x338).sum), sV (.int .i64 ((getI a0.path x338).at_))] :: Blk ad367 [sV (.int .i64 ((getI x339 (wrap64 ((lenI x339) - (1 : Int)))).len)), sL ((getI x339 (wrap64 ((lenI x339) - (1 : Int)))).bits), sL ((getI x339 (wrap64 ((lenI x339) - (1 : Int)))).sum), sV (.int .i64 ((getI x339 (wrap64 ((lenI x339) - (1 : Int)))).at_))] :: Blk ad363 [sV (.int .i64 ((getI x339 (wrap64 ((lenI x339) - (1 : Int)))).len)), sL ((getI x339 (wrap64 ((lenI x339) - (1 : Int)))).bits), sL ((getI x339 (wrap64 ((lenI x339) - (1 : Int)))).sum), sV (.int .i64 ((getI x339 (wrap64 ((lenI x339) - (1 : Int)))).at_))] :: Blk ad356 [sV (.int .i64 ((getI a0.path x338).len)), sL ((getI a0.path x338).bits), sL ((getI a0.path x338).sum), sV (.int .i64 ((getI a0.path x338).at_))] :: Rw v312 ([t307] : List Item) :: Rw v302 ([t297] : List Str) :: Rw v340 x339 :: Rw v342 x341 :: Blk ad6 [sL a1] :: Blk ad4 [sV (.int .i64 a0.end_), sL a0.leaf.label, sL a0.leaf.value, sV (.int .i64 a0.leaf.at_), sV (.int .i64 a0.a.len), sL a0.a.bits, sL a0.a.sum, sV (.int .i64 a0.a.at_), sV (.int .i64 a0.b.len), sL a0.b.bits, sL a0.b.sum, sV (.int .i64 a0.b.at_), sV v1] :: F = L₀) (fun K366 hK366 => ?_) ?_
   ·refine G.drawN 6 mixed (by kernel_rfl) ?_
    refine tn 0 rfl hQ (fun S₀ X₀ e₀ => Y.loadB (X₀.length + 0)  0 4 [sV (.int .i64 ((getI x339 (wrap64 ((lenI x339) - (1 : Int)))).len)), sL ((getI x339 (wrap64 ((lenI x339) - (1 : Int)))).bits), sL ((getI x339 (wrap64 ((lenI x339) - (1 : Int)))).sum), sV (.int .i64 ((getI x339 (wrap64 ((lenI x339) - (1 : Int)))).at_))] rfl (Lk rfl) rfl rfl row45 (by kernel_rfl)) ?_
    refine tn 1 rfl hQ (fun S₀ X₀ e₀ => Y.loadB (X₀.length + 1)  0 4 [sV (.int .i64 ((getI a0.path x338).len)), sL ((getI a0.path x338).bits), sL ((getI a0.path x338).sum), sV (.int .i64 ((getI a0.path x338).at_))] rfl (Lk rfl) rfl rfl row45 (by kernel_rfl)) ?_
    refine GDr.any [2, 3] (by kernel_rfl) rfl (AllR.two ?_ ?_)
    ·refine n1 rfl (OS.alloc _ (by decide) zero45 (fun ad371 => ⟨⟨[_], (.same .refl), l0⟩, ?_⟩))
     refine g1 3 ?_
     refine n1 rfl (OS.alloc _ (by decide) zero45 (fun ad373 => ⟨⟨[_, _], (.same (.same .refl)), l0⟩, ?_⟩))
     refine g1 4 ?_
     refine n1 rfl (OS.store 1 0 4 [sV (.int .i64 ((getI x339 (wrap64 ((lenI x339) - (1 : Int)))).len)), sL ((getI x339 (wrap64 ((lenI x339) - (1 : Int)))).bits), sL ((getI x339 (wrap64 ((lenI x339) - (1 : Int)))).sum), sV (.int .i64 ((getI x339 (wrap64 ((lenI x339) - (1 : Int)))).at_))] (r := [sV (.int .i64 ((getI x339 (wrap64 ((lenI x339) - (1 : Int)))).len)), sL ((getI x339 (wrap64 ((lenI x339) - (1 : Int)))).bits), sL ((getI x339 (wrap64 ((lenI x339) - (1 : Int)))).sum), sV (.int .i64 ((getI x339 (wrap64 ((lenI x339) - (1 : Int)))).at_))]) rfl rfl (aggV_cells _) (oI (oL (oL (oI oN)))) rfl rfl size45 (by kernel_rfl) (by kernel_rfl) (by kernel_rfl) ⟨⟨[_, _], (.same (.same .refl)), l0⟩, ?_⟩)
     refine g1 5 ?_
     refine n1 rfl (OS.store 0 0 4 [sV (.int .i64 ((getI a0.path x338).len)), sL ((getI a0.path x338).bits), sL ((getI a0.path x338).sum), sV (.int .i64 ((getI a0.path x338).at_))] (r := [sV (.int .i64 ((getI a0.path x338).len)), sL ((getI a0.path x338).bits), sL ((getI a0.path x338).sum), sV (.int .i64 ((getI a0.path x338).at_))]) rfl rfl (aggV_cells _) (oI (oL (oL (oI oN)))) rfl rfl size45 (by kernel_rfl) (by kernel_rfl) (by kernel_rfl) ⟨⟨[_, _], (.same (.same .refl)), l0⟩, ?_⟩)
     refine dn ?_
     refine GX.keep [14, 13, 12, 11, 91, 90, 89, 8, 7, 3] rfl ?_
     exact hK366 _ _ _ ⟨ad373, ad371, l0, rfl, rfl⟩
    refine n1 rfl (OS.alloc _ (by decide) zero45 (fun ad375 => ⟨⟨[_], (.same .refl), l0⟩, ?_⟩))
    refine g1 2 ?_
    refine n1 rfl (OS.alloc _ (by decide) zero45 (fun ad377 => ⟨⟨[_, _], (.same (.same .refl)), l0⟩, ?_⟩))
    refine g1 4 ?_
    refine n1 rfl (OS.store 0 0 4 [sV (.int .i64 ((getI x339 (wrap64 ((lenI x339) - (1 : Int)))).len)), sL ((getI x339 (wrap64 ((lenI x339) - (1 : Int)))).bits), sL ((getI x339 (wrap64 ((lenI x339) - (1 : Int)))).sum), sV (.int .i64 ((getI x339 (wrap64 ((lenI x339) - (1 : Int)))).at_))] (r := [sV (.int .i64 ((getI x339 (wrap64 ((lenI x339) - (1 : Int)))).len)), sL ((getI x339 (wrap64 ((lenI x339) - (1 : Int)))).bits), sL ((getI x339 (wrap64 ((lenI x339) - (1 : Int)))).sum), sV (.int .i64 ((getI x339 (wrap64 ((lenI x339) - (1 : Int)))).at_))]) rfl rfl (aggV_cells _) (oI (oL (oL (oI oN)))) rfl rfl size45 (by kernel_rfl) (by kernel_rfl) (by kernel_rfl) ⟨⟨[_, _], (.same (.same .refl)), l0⟩, ?_⟩)
    refine g1 5 ?_
    refine n1 rfl (OS.store 1 0 4 [sV (.int .i64 ((getI a0.path x338).len)), sL ((getI a0.path x338).bits), sL ((getI a0.path x338).sum), sV (.int .i64 ((getI a0.path x338).at_))] (r := [sV (.int .i64 ((getI a0.path x338).len)), sL ((getI a0.path x338).bits), sL ((getI a0.path x338).sum), sV (.int .i64 ((getI a0.path x338).at_))]) rfl rfl (aggV_cells _) (oI (oL (oL (oI oN)))) rfl rfl size45 (by kernel_rfl) (by kernel_rfl) (by kernel_rfl) ⟨⟨[_, _], (.same (.same .refl)), l0⟩, ?_⟩)
    refine dn ?_
    refine GX.keep [14, 13, 12, 11, 91, 90, 89, 8, 7, 3] rfl ?_
    refine GX.perm (.trans (.swap _ _ _) (.cons _ (.refl _))) ?_
    exact hK366 _ _ _ ⟨ad375, ad377, l0, rfl, rfl⟩
   rintro _ S379 _ ⟨ad369, ad367, e380, rfl, rfl⟩
   replace q331 := q331.up e380
   refine GX.then hK365 ?_
   refine G.seq (fun _ hK381 => ?_)
   refine sr (fun _ hK382 => ?_)
   refine vl (Y.fieldAddr 1 rfl fld45_1 rfl) ?_
   refine lb 2 1 1 [sL ((getI x339 (wrap64 ((lenI x339) - (1 : Int)))).bits)] row23 ?_
   refine vl (Y.fieldAddr 1 rfl fld45_1 rfl) ?_
   refine lb 3 1 1 [sL ((getI a0.path x338).bits)] row23 ?_
   obtain ⟨t383, wt383, h⟩ := bind_some' h
   refine st (cl fb62 (r01_Order_ok ((getI x339 (wrap64 ((lenI x339) - (1 : Int)))).bits) ((getI a0.path x338).bits) wt383) (fun v384 S385 e386 z387 => ?_))
   replace q331 := q331.up e386
   obtain rfl := z387
   refine vl (Y.eqI rfl rfl) ?_
   refine nt hK382 ?_
   refine G.cond _ rfl (fun c388 => ?_) (fun c388 => ?_)
   ·replace h := ite_t c388 h
    refine G.drawS 2 _ ((fun _ => True) :: (fun _ => True) :: Blk ad363 [sV (.int .i64 ((getI x339 (wrap64 ((lenI x339) - (1 : Int)))).len)), sL ((getI x339 (wrap64 ((lenI x339) - (1 : Int)))).bits), sL ((getI x339 (wrap64 ((lenI x339) - (1 : Int)))).sum), sV (.int .i64 ((getI x339 (wrap64 ((lenI x339) - (1 : Int)))).at_))] :: Blk ad356 [sV (.int .i64 ((getI a0.path x338).len)), sL ((getI a0.path x338).bits), sL ((getI a0.path x338).sum), sV (.int .i64 ((getI a0.path x338).at_))] :: Rw v312 ([t307] : List Item) :: Rw v302 ([t297] : List Str) :: Rw v340 x339 :: Rw v342 x341 :: Blk ad6 [sL a1] :: Blk ad4 [sV (.int .i64 a0.end_), sL a0.leaf.label, sL a0.leaf.value, sV (.int .i64 a0.leaf.at_), sV (.int .i64 a0.a.len), sL a0.a.bits, sL a0.a.sum, sV (.int .i64 a0.a.at_), sV (.int .i64 a0.b.len), sL a0.b.bits, sL a0.b.sum, sV (.int .i64 a0.b.at_), sV v1] :: F) mixed .refl (by kernel_rfl) ?_
    refine tx 0 rfl (.lose (.lose .refl)) hQ (fun S₀ X₀ e₀ => Y.loadB (X₀.length + 3)  0 4 [sV (.int .i64 ((getI a0.path x338).len)), sL ((getI a0.path x338).bits), sL ((getI a0.path x338).sum), sV (.int .i64 ((getI a0.path x338).at_))] rfl (Lk rfl) rfl rfl row45 (by kernel_rfl)) ?_
    refine tx 1 rfl (.lose (.lose .refl)) hQ (fun S₀ X₀ e₀ => Y.loadB (X₀.length + 2)  0 4 [sV (.int .i64 ((getI x339 (wrap64 ((lenI x339) - (1 : Int)))).len)), sL ((getI x339 (wrap64 ((lenI x339) - (1 : Int)))).bits), sL ((getI x339 (wrap64 ((lenI x339) - (1 : Int)))).sum), sV (.int .i64 ((getI x339 (wrap64 ((lenI x339) - (1 : Int)))).at_))] rfl (Lk rfl) rfl rfl row45 (by kernel_rfl)) ?_
    refine g1 2 ?_
    refine n2 rfl (OS.store 1 0 4 [sV (.int .i64 ((getI a0.path x338).len)), sL ((getI a0.path x338).bits), sL ((getI a0.path x338).sum), sV (.int .i64 ((getI a0.path x338).at_))] (r := [sV (.int .i64 ((getI a0.path x338).len)), sL ((getI a0.path x338).bits), sL ((getI a0.path x338).sum), sV (.int .i64 ((getI a0.path x338).at_))]) rfl rfl (aggV_cells _) (oI (oL (oL (oI oN)))) rfl rfl size45 (by kernel_rfl) (by kernel_rfl) (by kernel_rfl) ⟨⟨[], (.lose (.lose .refl)), l0⟩, ?_⟩)
    refine g1 3 ?_
    refine n2 rfl (OS.store 0 0 4 [sV (.int .i64 ((getI x339 (wrap64 ((lenI x339) - (1 : Int)))).len)), sL ((getI x339 (wrap64 ((lenI x339) - (1 : Int)))).bits), sL ((getI x339 (wrap64 ((lenI x339) - (1 : Int)))).sum), sV (.int .i64 ((getI x339 (wrap64 ((lenI x339) - (1 : Int)))).at_))] (r := [sV (.int .i64 ((getI x339 (wrap64 ((lenI x339) - (1 : Int)))).len)), sL ((getI x339 (wrap64 ((lenI x339) - (1 : Int)))).bits), sL ((getI x339 (wrap64 ((lenI x339) - (1 : Int)))).sum), sV (.int .i64 ((getI x339 (wrap64 ((lenI x339) - (1 : Int)))).at_))]) rfl rfl (aggV_cells _) (oI (oL (oL (oI oN)))) rfl rfl size45 (by kernel_rfl) (by kernel_rfl) (by kernel_rfl) ⟨⟨[], (.lose (.lose .refl)), l0⟩, ?_⟩)
    refine dn ?_
    refine GX.then hK381 ?_
    refine G.seq (fun _ hK389 => ?_)
    refine sr (fun _ hK390 => ?_)
    refine lb 1 0 4 [sV (.int .i64 ((getI a0.path x338).len)), sL ((getI a0.path x338).bits), sL ((getI a0.path x338).sum), sV (.int .i64 ((getI a0.path x338).at_))] row45 ?_
    refine lb 0 0 4 [sV (.int .i64 ((getI x339 (wrap64 ((lenI x339) - (1 : Int)))).len)), sL ((getI x339 (wrap64 ((lenI x339) - (1 : Int)))).bits), sL ((getI x339 (wrap64 ((lenI x339) - (1 : Int)))).sum), sV (.int .i64 ((getI x339 (wrap64 ((lenI x339) - (1 : Int)))).at_))] row45 ?_
    obtain ⟨t391, wt391, h⟩ := bind_some' h
    refine st (cl fb58 (r15_Check_ok (getI a0.path x338) (getI x339 (wrap64 ((lenI x339) - (1 : Int)))) wt391) (fun v392 S393 e394 z395 => ?_))
    replace q331 := q331.up e394
    obtain rfl := z395
    refine an ?_
    refine nt hK390 ?_
    refine sr (fun _ hK396 => ?_)
    refine mv ?_
    refine vl (Y.neI rfl rfl) ?_
    refine nt hK396 ?_
    refine G.cond _ rfl (fun c397 => ?_) (fun c397 => ?_)
    ·replace h := ite_t c397 h
     refine sr (fun _ hK398 => ?_)
     refine mv ?_
     refine an ?_
     refine an ?_
     refine an ?_
     refine nt hK398 ?_
     refine G.ret ?_
     obtain rfl := Option.some.inj h
     obtain rfl := hf2 _ rfl
     have h := ho345
     try dsimp only at h
     obtain rfl := Option.some.inj h
     exact hret _ _ _ _ 10 (l2 e291 (l2 e300 (l2 e310 (l2 e329 (l2 e337 (l2 e380 (l2 e386 e394))))))) (.cons (.tmp rfl) (.cons (.tmp rfl) (.cons (.tmp rfl) .nil))) ⟨_, _, rfl, (Sls.nil (α := Str) _), (Sls.nil (α := Item) _)⟩ rfl
    replace h := ite_f c397 h
    refine sk hK389 ?_
    refine sr (fun _ hK399 => ?_)
    refine lb 1 0 4 [sV (.int .i64 ((getI a0.path x338).len)), sL ((getI a0.path x338).bits), sL ((getI a0.path x338).sum), sV (.int .i64 ((getI a0.path x338).at_))] row45 ?_
    refine lb 0 0 4 [sV (.int .i64 ((getI x339 (wrap64 ((lenI x339) - (1 : Int)))).len)), sL ((getI x339 (wrap64 ((lenI x339) - (1 : Int)))).bits), sL ((getI x339 (wrap64 ((lenI x339) - (1 : Int)))).sum), sV (.int .i64 ((getI x339 (wrap64 ((lenI x339) - (1 : Int)))).at_))] row45 ?_
    obtain ⟨t400, wt400, h⟩ := bind_some' h
    refine st (cl fb60 (r16_Inner_ok (getI a0.path x338) (getI x339 (wrap64 ((lenI x339) - (1 : Int)))) wt400) (fun v401 S402 e403 z404 => ?_))
    replace q331 := q331.up e403
    obtain rfl := z404
    refine st (OS.alloc _ (by decide) zero45 (fun ad405 => ?_))
    refine sf 0 4 [sV (.int .i64 t400.len), sL t400.bits, sL t400.sum, sV (.int .i64 t400.at_)] (aggV_cells _) (oI (oL (oL (oI oN)))) size45 ?_
    refine nt hK399 ?_
    refine G.seq (fun _ hK407 => ?_)
    refine G.seq (fun _ hK408 => ?_)
    obtain ⟨b410, wb410, h⟩ := bind_some' h
    refine G.cut (fun E₀ S₀ L₀ => S402.le S₀ ∧ E₀ = [(135, .bool b410), (16, .pointer (some ⟨ad405, 0, none⟩)), (14, .pointer (some ⟨ad369, 0, none⟩)), (13, .pointer (some ⟨ad367, 0, none⟩)), (91, .int .i64 x338), (90, .int .i64 (lenI a0.path)), (89, v1), (8, v340), (7, v342), (3, .pointer (some ⟨ad6, 0, none⟩))] ∧ Blk ad405 [sV (.int .i64 t400.len), sL t400.bits, sL t400.sum, sV (.int .i64 t400.at_)] :: Blk ad369 [sV (.int .i64 ((getI x339 (wrap64 ((lenI x339) - (1 : Int)))).len)), sL ((getI x339 (wrap64 ((lenI x339) - (1 : Int)))).bits), sL ((getI x339 (wrap64 ((lenI x339) - (1 : Int)))).sum), sV (.int .i64 ((getI x339 (wrap64 ((lenI x339) - (1 : Int)))).at_))] :: Blk ad367 [sV (.int .i64 ((getI a0.path x338).len)), sL ((getI a0.path x338).bits), sL ((getI a0.path x338).sum), sV (.int .i64 ((getI a0.path x338).at_))] :: Blk ad363 [sV (.int .i64 ((getI x339 (wrap64 ((lenI x339) - (1 : Int)))).len)), sL ((getI x339 (wrap64 ((lenI x339) - (1 : Int)))).bits), sL ((getI x339 (wrap64 ((lenI x339) - (1 : Int)))).sum), sV (.int .i64 ((getI x339 (wrap64 ((lenI x339) - (1 : Int)))).at_))] :: Blk ad356 [sV (.int .i64 ((getI a0.path x338).len)), sL ((getI a0.path x338).bits), sL ((getI a0.path x338).sum), sV (.int .i64 ((getI a0.path x338).at_))] :: Rw v312 ([t307] : List Item) :: Rw v302 ([t297] : List Str) :: Rw v340 x339 :: Rw v342 x341 :: Blk ad6 [sL a1] :: Blk ad4 [sV (.int .i64 a0.end_), sL a0.leaf.label, sL a0.leaf.value, sV (.int .i64 a0.leaf.at_), sV (.int .i64 a0.a.len), sL a0.a.bits, sL a0.a.sum, sV (.int .i64 a0.a.at_), sV (.int .i64 a0.b.len), sL a0.b.bits, sL a0.b.sum, sV (.int .i64 a0.b.at_), sV v1] :: F = L₀) (fun K409 hK409 => ?_) ?_
    ·replace h := wb410
     obtain ⟨t411, wt411, h⟩ := bind_some' h
     rcases Bool.eq_false_or_eq_true (!t411) with c417 | c417
     ·replace h := ite_t c417 h
      obtain rfl := Option.some.inj h
      refine G.drawN 16 mixed (by kernel_rfl) ?_
      refine tn 0 rfl hQ (fun S₀ X₀ e₀ => Y.loadB (X₀.length + 0)  0 4 [sV (.int .i64 t400.len), sL t400.bits, sL t400.sum, sV (.int .i64 t400.at_)] rfl (Lk rfl) rfl rfl row45 (by kernel_rfl)) ?_
      refine tn 1 rfl hQ (fun S₀ X₀ e₀ => Y.loadB (X₀.length + 9)  0 1 [sL a1] rfl (Lk rfl) rfl rfl row23 (by kernel_rfl)) ?_
      refine g1 2 ?_
      refine n1 rfl (cl fb61 (r18_has_ok t400 a1 wt411) (fun v418 S419 e420 z421 => ⟨⟨[], .refl, e420⟩, ?_⟩))
      have q422 := q331.up e420
      obtain rfl := z421
      refine tn 3 rfl hQ (fun _ _ _ => Y.not rfl) ?_
      refine tn 4 rfl hQ (fun _ _ _ => Y.move rfl) ?_
      refine tf 5 rfl .refl hQ (gn 124 c417) ?_
      refine tf 6 rfl .refl hQ (gn 124 c417) ?_
      refine tf 7 rfl .refl hQ (gn 124 c417) ?_
      refine tf 8 rfl .refl hQ (gn 124 c417) ?_
      refine tf 9 rfl .refl hQ (gn 124 c417) ?_
      refine tf 10 rfl .refl hQ (gn 124 c417) ?_
      refine tf 11 rfl .refl hQ (gn 124 c417) ?_
      refine tf 12 rfl .refl hQ (gn 124 c417) ?_
      refine tf 13 rfl .refl hQ (gn 124 c417) ?_
      refine tf 14 rfl .refl hQ (gn 124 c417) ?_
      refine tn 15 rfl hQ (fun _ _ _ => Y.pickT _ c417 rfl rfl) ?_
      refine dn ?_
      refine GX.keep [135, 16, 14, 13, 91, 90, 89, 8, 7, 3] rfl ?_
      exact hK409 _ _ _ ⟨e420, rfl, rfl⟩
     replace h := ite_f c417 h
     obtain ⟨t423, wt423, h⟩ := bind_some' h
     obtain ⟨t429, wt429, h⟩ := bind_some' h
     obtain rfl := Option.some.inj h
     refine G.drawN 16 mixed (by kernel_rfl) ?_
     refine tn 0 rfl hQ (fun S₀ X₀ e₀ => Y.loadB (X₀.length + 0)  0 4 [sV (.int .i64 t400.len), sL t400.bits, sL t400.sum, sV (.int .i64 t400.at_)] rfl (Lk rfl) rfl rfl row45 (by kernel_rfl)) ?_
     refine tn 1 rfl hQ (fun S₀ X₀ e₀ => Y.loadB (X₀.length + 9)  0 1 [sL a1] rfl (Lk rfl) rfl rfl row23 (by kernel_rfl)) ?_
     refine g1 2 ?_
     refine n1 rfl (cl fb61 (r18_has_ok t400 a1 wt411) (fun v435 S436 e437 z438 => ⟨⟨[], .refl, e437⟩, ?_⟩))
     have q439 := q331.up e437
     obtain rfl := z438
     refine tn 3 rfl hQ (fun _ _ _ => Y.not rfl) ?_
     refine tn 4 rfl hQ (fun _ _ _ => Y.move rfl) ?_
     refine tw 5 rfl .refl hQ (gi 124 c417) (fun S₀ X₀ e₀ => Y.loadB (X₀.length + 9)  0 1 [sL a1] rfl (Lk rfl) rfl rfl row23 (by kernel_rfl)) ?_
     refine tw 6 rfl .refl hQ (gi 124 c417) (fun _ _ _ => Y.fieldAddr 0 rfl fld45_0 rfl) ?_
     refine tw 7 rfl .refl hQ (gi 124 c417) (fun S₀ X₀ e₀ => Y.loadV (X₀.length + 0)  0 _ rfl (Lk rfl) rfl rfl one3) ?_
     refine tw 9 rfl .refl hQ (gi 124 c417) (fun _ _ _ => Y.fieldAddr 1 rfl fld45_1 rfl) ?_
     refine tw 10 rfl .refl hQ (gi 124 c417) (fun S₀ X₀ e₀ => Y.loadB (X₀.length + 3)  1 1 [sL ((getI x339 (wrap64 ((lenI x339) - (1 : Int)))).bits)] rfl (Lk rfl) rfl rfl row23 (by kernel_rfl)) ?_
     refine tw 11 rfl .refl hQ (gi 124 c417) (fun _ _ _ => Y.fieldAddr 0 rfl fld45_0 rfl) ?_
     refine tw 12 rfl .refl hQ (gi 124 c417) (fun S₀ X₀ e₀ => Y.loadV (X₀.length + 0)  0 _ rfl (Lk rfl) rfl rfl one3) ?_
     refine g1 8 ?_
     refine GD1.on rfl (gi 124 c417) (by kernel_rfl) (cl fb63 (r01_Bit_ok a1 t400.len wt423) (fun v440 S441 e442 z443 => ⟨⟨[], .refl, (l2 e437 e442)⟩, ?_⟩))
     have q444 := q439.up e442
     obtain rfl := z443
     refine g1 13 ?_
     refine GD1.on rfl (gi 124 c417) (by kernel_rfl) (cl fb63 (r01_Bit_ok ((getI x339 (wrap64 ((lenI x339) - (1 : Int)))).bits) t400.len wt429) (fun v445 S446 e447 z448 => ⟨⟨[], .refl, (l2 e437 (l2 e442 e447))⟩, ?_⟩))
     have q449 := q444.up e447
     obtain rfl := z448
     refine tw 14 rfl .refl hQ (gi 124 c417) (fun _ _ _ => Y.neI rfl rfl) ?_
     refine tn 15 rfl hQ (fun _ _ _ => Y.pickF _ c417 rfl rfl) ?_
     refine dn ?_
     refine GX.keep [135, 16, 14, 13, 91, 90, 89, 8, 7, 3] rfl ?_
     exact hK409 _ _ _ ⟨(l2 e437 (l2 e442 e447)), rfl, rfl⟩
    rintro _ S450 _ ⟨e451, rfl, rfl⟩
    replace q331 := q331.up e451
    refine GX.then hK408 ?_
    refine G.cond _ rfl (fun c452 => ?_) (fun c452 => ?_)
    ·replace h := ite_t c452 h
     refine sr (fun _ hK453 => ?_)
     refine an ?_
     refine an ?_
     refine an ?_
     refine nt hK453 ?_
     refine G.ret ?_
     obtain rfl := Option.some.inj h
     obtain rfl := hf2 _ rfl
     have h := ho345
     try dsimp only at h
     obtain rfl := Option.some.inj h
     exact hret _ _ _ _ 11 (l2 e291 (l2 e300 (l2 e310 (l2 e329 (l2 e337 (l2 e380 (l2 e386 (l2 e394 (l2 e403 e451))))))))) (.cons (.tmp rfl) (.cons (.tmp rfl) (.cons (.tmp rfl) .nil))) ⟨_, _, rfl, (Sls.nil (α := Str) _), (Sls.nil (α := Item) _)⟩ rfl
    replace h := ite_f c452 h
    refine sk hK407 ?_
    refine sr (fun _ hK454 => ?_)
    refine mv ?_
    refine lb 2 0 4 [sV (.int .i64 ((getI a0.path x338).len)), sL ((getI a0.path x338).bits), sL ((getI a0.path x338).sum), sV (.int .i64 ((getI a0.path x338).at_))] row45 ?_
    refine lb 1 0 4 [sV (.int .i64 ((getI x339 (wrap64 ((lenI x339) - (1 : Int)))).len)), sL ((getI x339 (wrap64 ((lenI x339) - (1 : Int)))).bits), sL ((getI x339 (wrap64 ((lenI x339) - (1 : Int)))).sum), sV (.int .i64 ((getI x339 (wrap64 ((lenI x339) - (1 : Int)))).at_))] row45 ?_
    obtain ⟨t455, wt455, h⟩ := bind_some' h
    refine st (cl fb59 (r15_InnerBytes_ok (getI a0.path x338) (getI x339 (wrap64 ((lenI x339) - (1 : Int)))) wt455) (fun v456 S457 e458 z459 => ?_))
    replace q331 := q331.up e458
    obtain rfl := z459
    refine bs ([t455] : List Str) el58 (fun v460 => ?_)
    obtain ⟨g462, h⟩ := req_bind h
    refine st (OS.append (xs := x341) (ys := ([t455] : List Str)) 9 (by decide) rfl rfl rfl (Rw.src (k := 0) rfl) el58 src58 g462 (fun v463 => ?_))
    refine an ?_
    refine nt hK454 ?_
    refine G.region ?_
    refine mv ?_
    refine lb 1 0 4 [sV (.int .i64 t400.len), sL t400.bits, sL t400.sum, sV (.int .i64 t400.at_)] row45 ?_
    refine bs ([t400] : List Item) el46 (fun v464 => ?_)
    obtain ⟨g466, h⟩ := req_bind h
    refine st (OS.append (xs := x339) (ys := ([t400] : List Item)) 9 (by decide) rfl rfl rfl (Rw.src (k := 0) rfl) el46 src46 g466 (fun v467 => ?_))
    refine an ?_
    refine GO.nil ?_
    refine GX.normal_block ?_
    refine GX.then hK349 ?_
    refine G.region ?_
    refine vl (Y.addI rfl rfl) ?_
    refine mv ?_
    refine GO.nil ?_
    obtain rfl := Option.some.inj h
    refine GX.keep [91, 90, 89, 8, 7, 3] rfl ?_
    refine GX.less 7 rfl ?_
    exact hK2 _ _ _ _ rfl ⟨(l2 e337 (l2 e380 (l2 e386 (l2 e394 (l2 e403 (l2 e451 e458)))))), v467, v463, rfl, rfl⟩
   replace h := ite_f c388 h
   refine sk hK381 ?_
   refine G.seq (fun _ hK468 => ?_)
   refine sr (fun _ hK469 => ?_)
   refine lb 1 0 4 [sV (.int .i64 ((getI x339 (wrap64 ((lenI x339) - (1 : Int)))).len)), sL ((getI x339 (wrap64 ((lenI x339) - (1 : Int)))).bits), sL ((getI x339 (wrap64 ((lenI x339) - (1 : Int)))).sum), sV (.int .i64 ((getI x339 (wrap64 ((lenI x339) - (1 : Int)))).at_))] row45 ?_
   refine lb 0 0 4 [sV (.int .i64 ((getI a0.path x338).len)), sL ((getI a0.path x338).bits), sL ((getI a0.path x338).sum), sV (.int .i64 ((getI a0.path x338).at_))] row45 ?_
   obtain ⟨t470, wt470, h⟩ := bind_some' h
   refine st (cl fb58 (r15_Check_ok (getI x339 (wrap64 ((lenI x339) - (1 : Int)))) (getI a0.path x338) wt470) (fun v471 S472 e473 z474 => ?_))
   replace q331 := q331.up e473
   obtain rfl := z474
   refine an ?_
   refine nt hK469 ?_
   refine sr (fun _ hK475 => ?_)
   refine mv ?_
   refine vl (Y.neI rfl rfl) ?_
   refine nt hK475 ?_
   refine G.cond _ rfl (fun c476 => ?_) (fun c476 => ?_)
   ·replace h := ite_t c476 h
    refine sr (fun _ hK477 => ?_)
    refine mv ?_
    refine an ?_
    refine an ?_
    refine an ?_
    refine nt hK477 ?_
    refine G.ret ?_
    obtain rfl := Option.some.inj h
    obtain rfl := hf2 _ rfl
    have h := ho345
    try dsimp only at h
    obtain rfl := Option.some.inj h
    exact hret _ _ _ _ 10 (l2 e291 (l2 e300 (l2 e310 (l2 e329 (l2 e337 (l2 e380 (l2 e386 e473))))))) (.cons (.tmp rfl) (.cons (.tmp rfl) (.cons (.tmp rfl) .nil))) ⟨_, _, rfl, (Sls.nil (α := Str) _), (Sls.nil (α := Item) _)⟩ rfl
   replace h := ite_f c476 h
   refine sk hK468 ?_
   refine sr (fun _ hK478 => ?_)
   refine lb 1 0 4 [sV (.int .i64 ((getI x339 (wrap64 ((lenI x339) - (1 : Int)))).len)), sL ((getI x339 (wrap64 ((lenI x339) - (1 : Int)))).bits), sL ((getI x339 (wrap64 ((lenI x339) - (1 : Int)))).sum), sV (.int .i64 ((getI x339 (wrap64 ((lenI x339) - (1 : Int)))).at_))] row45 ?_
   refine lb 0 0 4 [sV (.int .i64 ((getI a0.path x338).len)), sL ((getI a0.path x338).bits), sL ((getI a0.path x338).sum), sV (.int .i64 ((getI a0.path x338).at_))] row45 ?_
   obtain ⟨t479, wt479, h⟩ := bind_some' h
   refine st (cl fb60 (r16_Inner_ok (getI x339 (wrap64 ((lenI x339) - (1 : Int)))) (getI a0.path x338) wt479) (fun v480 S481 e482 z483 => ?_))
   replace q331 := q331.up e482
   obtain rfl := z483
   refine st (OS.alloc _ (by decide) zero45 (fun ad484 => ?_))
   refine sf 0 4 [sV (.int .i64 t479.len), sL t479.bits, sL t479.sum, sV (.int .i64 t479.at_)] (aggV_cells _) (oI (oL (oL (oI oN)))) size45 ?_
   refine nt hK478 ?_
   refine G.seq (fun _ hK486 => ?_)
   refine G.seq (fun _ hK487 => ?_)
   obtain ⟨b489, wb489, h⟩ := bind_some' h
   refine G.cut (fun E₀ S₀ L₀ => S481.le S₀ ∧ E₀ = [(135, .bool b489), (16, .pointer (some ⟨ad484, 0, none⟩)), (14, .pointer (some ⟨ad369, 0, none⟩)), (13, .pointer (some ⟨ad367, 0, none⟩)), (91, .int .i64 x338), (90, .int .i64 (lenI a0.path)), (89, v1), (8, v340), (7, v342), (3, .pointer (some ⟨ad6, 0, none⟩))] ∧ Blk ad484 [sV (.int .i64 t479.len), sL t479.bits, sL t479.sum, sV (.int .i64 t479.at_)] :: Blk ad369 [sV (.int .i64 ((getI a0.path x338).len)), sL ((getI a0.path x338).bits), sL ((getI a0.path x338).sum), sV (.int .i64 ((getI a0.path x338).at_))] :: Blk ad367 [sV (.int .i64 ((getI x339 (wrap64 ((lenI x339) - (1 : Int)))).len)), sL ((getI x339 (wrap64 ((lenI x339) - (1 : Int)))).bits), sL ((getI x339 (wrap64 ((lenI x339) - (1 : Int)))).sum), sV (.int .i64 ((getI x339 (wrap64 ((lenI x339) - (1 : Int)))).at_))] :: Blk ad363 [sV (.int .i64 ((getI x339 (wrap64 ((lenI x339) - (1 : Int)))).len)), sL ((getI x339 (wrap64 ((lenI x339) - (1 : Int)))).bits), sL ((getI x339 (wrap64 ((lenI x339) - (1 : Int)))).sum), sV (.int .i64 ((getI x339 (wrap64 ((lenI x339) - (1 : Int)))).at_))] :: Blk ad356 [sV (.int .i64 ((getI a0.path x338).len)), sL ((getI a0.path x338).bits), sL ((getI a0.path x338).sum), sV (.int .i64 ((getI a0.path x338).at_))] :: Rw v312 ([t307] : List Item) :: Rw v302 ([t297] : List Str) :: Rw v340 x339 :: Rw v342 x341 :: Blk ad6 [sL a1] :: Blk ad4 [sV (.int .i64 a0.end_), sL a0.leaf.label, sL a0.leaf.value, sV (.int .i64 a0.leaf.at_), sV (.int .i64 a0.a.len), sL a0.a.bits, sL a0.a.sum, sV (.int .i64 a0.a.at_), sV (.int .i64 a0.b.len), sL a0.b.bits, sL a0.b.sum, sV (.int .i64 a0.b.at_), sV v1] :: F = L₀) (fun K488 hK488 => ?_) ?_
   ·replace h := wb489
    obtain ⟨t490, wt490, h⟩ := bind_some' h
    rcases Bool.eq_false_or_eq_true (!t490) with c496 | c496
    ·replace h := ite_t c496 h
     obtain rfl := Option.some.inj h
     refine G.drawN 16 mixed (by kernel_rfl) ?_
     refine tn 0 rfl hQ (fun S₀ X₀ e₀ => Y.loadB (X₀.length + 0)  0 4 [sV (.int .i64 t479.len), sL t479.bits, sL t479.sum, sV (.int .i64 t479.at_)] rfl (Lk rfl) rfl rfl row45 (by kernel_rfl)) ?_
     refine tn 1 rfl hQ (fun S₀ X₀ e₀ => Y.loadB (X₀.length + 9)  0 1 [sL a1] rfl (Lk rfl) rfl rfl row23 (by kernel_rfl)) ?_
     refine g1 2 ?_
     refine n1 rfl (cl fb61 (r18_has_ok t479 a1 wt490) (fun v497 S498 e499 z500 => ⟨⟨[], .refl, e499⟩, ?_⟩))
     have q501 := q331.up e499
     obtain rfl := z500
     refine tn 3 rfl hQ (fun _ _ _ => Y.not rfl) ?_
     refine tn 4 rfl hQ (fun _ _ _ => Y.move rfl) ?_
     refine tf 5 rfl .refl hQ (gn 124 c496) ?_
     refine tf 6 rfl .refl hQ (gn 124 c496) ?_
     refine tf 7 rfl .refl hQ (gn 124 c496) ?_
     refine tf 8 rfl .refl hQ (gn 124 c496) ?_
     refine tf 9 rfl .refl hQ (gn 124 c496) ?_
     refine tf 10 rfl .refl hQ (gn 124 c496) ?_
     refine tf 11 rfl .refl hQ (gn 124 c496) ?_
     refine tf 12 rfl .refl hQ (gn 124 c496) ?_
     refine tf 13 rfl .refl hQ (gn 124 c496) ?_
     refine tf 14 rfl .refl hQ (gn 124 c496) ?_
     refine tn 15 rfl hQ (fun _ _ _ => Y.pickT _ c496 rfl rfl) ?_
     refine dn ?_
     refine GX.keep [135, 16, 14, 13, 91, 90, 89, 8, 7, 3] rfl ?_
     exact hK488 _ _ _ ⟨e499, rfl, rfl⟩
    replace h := ite_f c496 h
    obtain ⟨t502, wt502, h⟩ := bind_some' h
    obtain ⟨t508, wt508, h⟩ := bind_some' h
    obtain rfl := Option.some.inj h
    refine G.drawN 16 mixed (by kernel_rfl) ?_
    refine tn 0 rfl hQ (fun S₀ X₀ e₀ => Y.loadB (X₀.length + 0)  0 4 [sV (.int .i64 t479.len), sL t479.bits, sL t479.sum, sV (.int .i64 t479.at_)] rfl (Lk rfl) rfl rfl row45 (by kernel_rfl)) ?_
    refine tn 1 rfl hQ (fun S₀ X₀ e₀ => Y.loadB (X₀.length + 9)  0 1 [sL a1] rfl (Lk rfl) rfl rfl row23 (by kernel_rfl)) ?_
    refine g1 2 ?_
    refine n1 rfl (cl fb61 (r18_has_ok t479 a1 wt490) (fun v514 S515 e516 z517 => ⟨⟨[], .refl, e516⟩, ?_⟩))
    have q518 := q331.up e516
    obtain rfl := z517
    refine tn 3 rfl hQ (fun _ _ _ => Y.not rfl) ?_
    refine tn 4 rfl hQ (fun _ _ _ => Y.move rfl) ?_
    refine tw 5 rfl .refl hQ (gi 124 c496) (fun S₀ X₀ e₀ => Y.loadB (X₀.length + 9)  0 1 [sL a1] rfl (Lk rfl) rfl rfl row23 (by kernel_rfl)) ?_
    refine tw 6 rfl .refl hQ (gi 124 c496) (fun _ _ _ => Y.fieldAddr 0 rfl fld45_0 rfl) ?_
    refine tw 7 rfl .refl hQ (gi 124 c496) (fun S₀ X₀ e₀ => Y.loadV (X₀.length + 0)  0 _ rfl (Lk rfl) rfl rfl one3) ?_
    refine tw 9 rfl .refl hQ (gi 124 c496) (fun _ _ _ => Y.fieldAddr 1 rfl fld45_1 rfl) ?_
    refine tw 10 rfl .refl hQ (gi 124 c496) (fun S₀ X₀ e₀ => Y.loadB (X₀.length + 3)  1 1 [sL ((getI x339 (wrap64 ((lenI x339) - (1 : Int)))).bits)] rfl (Lk rfl) rfl rfl row23 (by kernel_rfl)) ?_
    refine tw 11 rfl .refl hQ (gi 124 c496) (fun _ _ _ => Y.fieldAddr 0 rfl fld45_0 rfl) ?_
    refine tw 12 rfl .refl hQ (gi 124 c496) (fun S₀ X₀ e₀ => Y.loadV (X₀.length + 0)  0 _ rfl (Lk rfl) rfl rfl one3) ?_
    refine g1 8 ?_
    refine GD1.on rfl (gi 124 c496) (by kernel_rfl) (cl fb63 (r01_Bit_ok a1 t479.len wt502) (fun v519 S520 e521 z522 => ⟨⟨[], .refl, (l2 e516 e521)⟩, ?_⟩))
    have q523 := q518.up e521
    obtain rfl := z522
    refine g1 13 ?_
    refine GD1.on rfl (gi 124 c496) (by kernel_rfl) (cl fb63 (r01_Bit_ok ((getI x339 (wrap64 ((lenI x339) - (1 : Int)))).bits) t479.len wt508) (fun v524 S525 e526 z527 => ⟨⟨[], .refl, (l2 e516 (l2 e521 e526))⟩, ?_⟩))
    have q528 := q523.up e526
    obtain rfl := z527
    refine tw 14 rfl .refl hQ (gi 124 c496) (fun _ _ _ => Y.neI rfl rfl) ?_
    refine tn 15 rfl hQ (fun _ _ _ => Y.pickF _ c496 rfl rfl) ?_
    refine dn ?_
    refine GX.keep [135, 16, 14, 13, 91, 90, 89, 8, 7, 3] rfl ?_
    exact hK488 _ _ _ ⟨(l2 e516 (l2 e521 e526)), rfl, rfl⟩
   rintro _ S529 _ ⟨e530, rfl, rfl⟩
   replace q331 := q331.up e530
   refine GX.then hK487 ?_
   refine G.cond _ rfl (fun c531 => ?_) (fun c531 => ?_)
   ·replace h := ite_t c531 h
    refine sr (fun _ hK532 => ?_)
    refine an ?_
    refine an ?_
    refine an ?_
    refine nt hK532 ?_
    refine G.ret ?_
    obtain rfl := Option.some.inj h
    obtain rfl := hf2 _ rfl
    have h := ho345
    try dsimp only at h
    obtain rfl := Option.some.inj h
    exact hret _ _ _ _ 11 (l2 e291 (l2 e300 (l2 e310 (l2 e329 (l2 e337 (l2 e380 (l2 e386 (l2 e473 (l2 e482 e530))))))))) (.cons (.tmp rfl) (.cons (.tmp rfl) (.cons (.tmp rfl) .nil))) ⟨_, _, rfl, (Sls.nil (α := Str) _), (Sls.nil (α := Item) _)⟩ rfl
   replace h := ite_f c531 h
   refine sk hK486 ?_
   refine sr (fun _ hK533 => ?_)
   refine mv ?_
   refine lb 2 0 4 [sV (.int .i64 ((getI x339 (wrap64 ((lenI x339) - (1 : Int)))).len)), sL ((getI x339 (wrap64 ((lenI x339) - (1 : Int)))).bits), sL ((getI x339 (wrap64 ((lenI x339) - (1 : Int)))).sum), sV (.int .i64 ((getI x339 (wrap64 ((lenI x339) - (1 : Int)))).at_))] row45 ?_
   refine lb 1 0 4 [sV (.int .i64 ((getI a0.path x338).len)), sL ((getI a0.path x338).bits), sL ((getI a0.path x338).sum), sV (.int .i64 ((getI a0.path x338).at_))] row45 ?_
   obtain ⟨t534, wt534, h⟩ := bind_some' h
   refine st (cl fb59 (r15_InnerBytes_ok (getI x339 (wrap64 ((lenI x339) - (1 : Int)))) (getI a0.path x338) wt534) (fun v535 S536 e537 z538 => ?_))
   replace q331 := q331.up e537
   obtain rfl := z538
   refine bs ([t534] : List Str) el58 (fun v539 => ?_)
   obtain ⟨g541, h⟩ := req_bind h
   refine st (OS.append (xs := x341) (ys := ([t534] : List Str)) 9 (by decide) rfl rfl rfl (Rw.src (k := 0) rfl) el58 src58 g541 (fun v542 => ?_))
   refine an ?_
   refine nt hK533 ?_
   refine G.region ?_
   refine mv ?_
   refine lb 1 0 4 [sV (.int .i64 t479.len), sL t479.bits, sL t479.sum, sV (.int .i64 t479.at_)] row45 ?_
   refine bs ([t479] : List Item) el46 (fun v543 => ?_)
   obtain ⟨g545, h⟩ := req_bind h
   refine st (OS.append (xs := x339) (ys := ([t479] : List Item)) 9 (by decide) rfl rfl rfl (Rw.src (k := 0) rfl) el46 src46 g545 (fun v546 => ?_))
   refine an ?_
   refine GO.nil ?_
   refine GX.normal_block ?_
   refine GX.then hK349 ?_
   refine G.region ?_
   refine vl (Y.addI rfl rfl) ?_
   refine mv ?_
   refine GO.nil ?_
   obtain rfl := Option.some.inj h
   refine GX.keep [91, 90, 89, 8, 7, 3] rfl ?_
   refine GX.less 7 rfl ?_
   exact hK2 _ _ _ _ rfl ⟨(l2 e337 (l2 e380 (l2 e386 (l2 e473 (l2 e482 (l2 e530 e537)))))), v546, v542, rfl, rfl⟩
  replace h := ite_f c348 h
  refine G.exit ?_
  refine GX.exit_then ?_
  obtain rfl := Option.some.inj h
  refine GX.keep [8, 7] rfl ?_
  exact hx343 _ _ _ ⟨_, _, _, _, _, e337, (hf2 _ rfl).symm, rfl, rfl⟩
 replace h := ite_f c285 h
 refine sr (fun _ hK556 => ?_)
 refine an ?_
 refine an ?_
 refine an ?_
 refine nt hK556 ?_
 refine G.ret ?_
 obtain rfl := Option.some.inj h
 exact hret _ _ _ _ 4 l0 (.cons (.tmp rfl) (.cons (.tmp rfl) (.cons (.tmp rfl) .nil))) ⟨_, _, rfl, (Sls.nil (α := Str) _), (Sls.nil (α := Item) _)⟩ rfl

end
end Go.Ch
end
section
/- Functions of the program: what each comes to, proved. -/
set_option linter.unusedVariables false
set_option linter.unusedSimpArgs false
set_option maxRecDepth 100000
set_option maxHeartbeats 4000000
namespace Go.Ch
open Go.RowKit (wrap64)
open Go.Proofs
noncomputable section
/- chirograph/chirographref16.Join -/
def r16_Join_s2 (a0 : (List Item)) (x19 : Int) : (Int × (List Item) × (List Item)) → Option ((Int × (List Item) × (List Item)) ⊕ (Int × (List Item) × (List Item)))
 | (x75, x76, x78) => (if (decide (x75 < (lenI a0))) = true then ((req ((0 : Int) ≤ x75 ∧ x75 < lenI a0)).bind fun _ => ((r01_Bit ((getI a0 x75).bits) x19).bind fun t96 => (if (t96 == (0 : Int)) = true then ((req (List.length x78 + List.length ([(getI a0 x75)] : List Item) ≤ LIM)).bind fun _ => some (.inl ((wrap64 (x75 + (1 : Int))), x76, (x78 ++ ([(getI a0 x75)] : List Item))))) else ((req (List.length x76 + List.length ([(getI a0 x75)] : List Item) ≤ LIM)).bind fun _ => some (.inl ((wrap64 (x75 + (1 : Int))), (x76 ++ ([(getI a0 x75)] : List Item)), x78)))))) else some (.inr (x75, x76, x78)))

def r16_Join_s1 (a0 : (List Item)) : (Int × Int) → Option ((Int × Int) ⊕ (Int × Int))
 | (x18, x19) => (if (decide (x18 < (lenI a0))) = true then ((req ((0 : Int) ≤ x18 ∧ x18 < lenI a0)).bind fun _ => ((req ((0 : Int) ≤ (0 : Int) ∧ (0 : Int) < lenI a0)).bind fun _ => ((r01_Common ((getI a0 (0 : Int)).bits) ((getI a0 x18).bits)).bind fun t40 => some (.inl ((wrap64 (x18 + (1 : Int))), (min x19 t40)))))) else some (.inr (x18, x19)))

def r16_Join : Nat → (List Item) → Option Item
 | 0 => fun _ => none
 | k + 1 => fun a0 =>
 (if ((lenI a0) == (1 : Int)) = true then ((req ((0 : Int) ≤ (0 : Int) ∧ (0 : Int) < lenI a0)).bind fun _ => some (getI a0 (0 : Int))) else ((iter (r16_Join_s1 a0) ((0 : Int), (256 : Int))).bind fun b21 => (match b21 with | (x18, x19) => (if (decide ((255 : Int) < x19)) = true then ((req ((0 : Int) ≤ (0 : Int) ∧ (0 : Int) < lenI a0)).bind fun _ => some (getI a0 (0 : Int))) else ((iter (r16_Join_s2 a0 x19) ((0 : Int), ([] : List Item), ([] : List Item))).bind fun b81 => (match b81 with | (x75, x76, x78) => ((r16_Join k x78).bind fun t116 => ((r16_Join k x76).bind fun t124 => ((r16_Inner t116 t124).bind fun t129 => some t129)))))))))

theorem r16_Join_ok (k : Nat) : ∀ {S : Hp} (a0 : (List Item)) {va0 : Value} (qa0 : Sls S va0 a0) {r : Item} (h : r16_Join k a0 = some r), Fn Tryz.prog 154 [va0] S (fun v S' => v = aggV [sV (.int .i64 r.len), sL r.bits, sL r.sum, sV (.int .i64 r.at_)]) := by
 induction k with
 | zero => intro S; intros; rename_i h; simp [r16_Join] at h
 | succ k ih =>
 intro S a0 va0 qa0 r h
 rw [r16_Join] at h
 replace ih := @ih
 refine fo [.cell 2 45] 64 Tryz.func154 Tryz.ntmps154 (fun o F Q hQ hN hret => ?_)
 refine sr (fun _ hK1 => ?_)
 refine st (OS.alloc _ (by decide) zero45 (fun ad2 => ?_))
 refine nt hK1 ?_
 refine G.seq (fun _ hK4 => ?_)
 refine sr (fun _ hK5 => ?_)
 refine mv ?_
 refine vl (Y.lenS rfl qa0 slc46) ?_
 refine vl (Y.eqI rfl rfl) ?_
 refine nt hK5 ?_
 refine G.cond _ rfl (fun c6 => ?_) (fun c6 => ?_)
 ·replace h := ite_t c6 h
  refine sr (fun _ hK7 => ?_)
  refine mv ?_
  obtain ⟨g8, h⟩ := req_bind h
  obtain ⟨ad9, p10, z11, q12⟩ := Sls.at qa0 g8
  refine vl (Y.idxS rfl z11 rfl slc46 g8) ?_
  refine vl (Y.loadS [sV (.int .i64 ((getI a0 (0 : Int)).len)), sL ((getI a0 (0 : Int)).bits), sL ((getI a0 (0 : Int)).sum), sV (.int .i64 ((getI a0 (0 : Int)).at_))] rfl (At.part q12 0 4 _ rfl rfl) row45 (by kernel_rfl)) ?_
  refine sf 0 4 [sV (.int .i64 ((getI a0 (0 : Int)).len)), sL ((getI a0 (0 : Int)).bits), sL ((getI a0 (0 : Int)).sum), sV (.int .i64 ((getI a0 (0 : Int)).at_))] (aggV_cells _) (oI (oL (oL (oI oN)))) size45 ?_
  refine nt hK7 ?_
  refine G.ret ?_
  obtain rfl := Option.some.inj h
  exact hret _ _ _ _ 1 l0 (.cons (.row (k := 0) rfl rfl row45 (by kernel_rfl)) .nil) rfl rfl
 replace h := ite_f c6 h
 refine sk hK4 ?_
 refine sr (fun _ hK13 => ?_)
 refine an ?_
 refine nt hK13 ?_
 refine G.seq (fun _ hK14 => ?_)
 refine sr (fun _ hK15 => ?_)
 refine mv ?_
 refine vl (Y.lenS rfl qa0 slc46) ?_
 refine mv ?_
 refine nt hK15 ?_
 refine G.block ?_
 obtain ⟨b21, wb21, ho22⟩ := bind_some' h
 refine G.keep [18, 17, 16, 3, 2, 0] rfl ?_
 refine G.loopK (r16_Join_s1 a0) (fun s₀ E' S' L' => match s₀ with | (x18, x19) => S.le S' ∧ E' = [(18, .int .i64 x18), (17, .int .i64 (lenI a0)), (16, va0), (3, .int .i64 x19), (2, .pointer (some ⟨ad2, 0, none⟩)), (0, va0)] ∧ Blk ad2 [sV (.int .i64 0), sL zL, sL zL, sV (.int .i64 0)] :: F = L') b21 0 (fun E₀ S₀ L₀ => ∃ (x18 : Int) (x19 : Int), S.le S₀ ∧ b21 = (x18, x19) ∧ E₀ = [(3, .int .i64 x19), (2, .pointer (some ⟨ad2, 0, none⟩)), (0, va0)] ∧ Blk ad2 [sV (.int .i64 0), sL zL, sL zL, sV (.int .i64 0)] :: F = L₀) wb21 ?_ ?_ ?_
 ·rintro _ S55 _ ⟨x18, x19, e56, rfl, rfl, rfl⟩
  have h := ho22; clear ho22
  try dsimp only at h
  replace qa0 := qa0.up e56
  refine GX.exit_block ?_
  refine GX.then hK14 ?_
  refine G.seq (fun _ hK57 => ?_)
  refine sr (fun _ hK58 => ?_)
  refine mv ?_
  refine vl (Y.gtI rfl rfl) ?_
  refine nt hK58 ?_
  refine G.cond _ rfl (fun c59 => ?_) (fun c59 => ?_)
  ·replace h := ite_t c59 h
   refine sr (fun _ hK60 => ?_)
   refine mv ?_
   obtain ⟨g61, h⟩ := req_bind h
   obtain ⟨ad62, p63, z64, q65⟩ := Sls.at qa0 g61
   refine vl (Y.idxS rfl z64 rfl slc46 g61) ?_
   refine vl (Y.loadS [sV (.int .i64 ((getI a0 (0 : Int)).len)), sL ((getI a0 (0 : Int)).bits), sL ((getI a0 (0 : Int)).sum), sV (.int .i64 ((getI a0 (0 : Int)).at_))] rfl (At.part q65 0 4 _ rfl rfl) row45 (by kernel_rfl)) ?_
   refine sf 0 4 [sV (.int .i64 ((getI a0 (0 : Int)).len)), sL ((getI a0 (0 : Int)).bits), sL ((getI a0 (0 : Int)).sum), sV (.int .i64 ((getI a0 (0 : Int)).at_))] (aggV_cells _) (oI (oL (oL (oI oN)))) size45 ?_
   refine nt hK60 ?_
   refine G.ret ?_
   obtain rfl := Option.some.inj h
   exact hret _ _ _ _ 1 e56 (.cons (.row (k := 0) rfl rfl row45 (by kernel_rfl)) .nil) rfl rfl
  replace h := ite_f c59 h
  refine sk hK57 ?_
  refine sr (fun _ hK66 => ?_)
  refine bs ([] : List Item) el46 (fun v67 => ?_)
  refine bs ([] : List Item) el46 (fun v69 => ?_)
  refine an ?_
  refine an ?_
  refine nt hK66 ?_
  refine G.seq (fun _ hK71 => ?_)
  refine sr (fun _ hK72 => ?_)
  refine mv ?_
  refine vl (Y.lenS rfl qa0 slc46) ?_
  refine mv ?_
  refine nt hK72 ?_
  refine G.block ?_
  obtain ⟨b81, wb81, ho82⟩ := bind_some' h
  refine G.keep [41, 40, 39, 7, 6, 3, 2] rfl ?_
  refine G.loopK (r16_Join_s2 a0 x19) (fun s₀ E' S' L' => match s₀ with | (x75, x76, x78) => S55.le S' ∧ ∃ (v77 : Value) (v79 : Value), E' = [(41, .int .i64 x75), (40, .int .i64 (lenI a0)), (39, va0), (7, v77), (6, v79), (3, .int .i64 x19), (2, .pointer (some ⟨ad2, 0, none⟩))] ∧ Rw v77 x76 :: Rw v79 x78 :: Blk ad2 [sV (.int .i64 0), sL zL, sL zL, sV (.int .i64 0)] :: F = L') b81 2 (fun E₀ S₀ L₀ => ∃ (x75 : Int) (x76 : (List Item)) (x78 : (List Item)) (v77 : Value) (v79 : Value), S55.le S₀ ∧ b81 = (x75, x76, x78) ∧ E₀ = [(7, v77), (6, v79), (2, .pointer (some ⟨ad2, 0, none⟩))] ∧ Rw v77 x76 :: Rw v79 x78 :: Blk ad2 [sV (.int .i64 0), sL zL, sL zL, sV (.int .i64 0)] :: F = L₀) wb81 ?_ ?_ ?_
  ·rintro _ S110 _ ⟨x75, x76, x78, v77, v79, e111, rfl, rfl, rfl⟩
   have h := ho82; clear ho82
   try dsimp only at h
   refine GX.exit_block ?_
   refine GX.then hK71 ?_
   refine sr (fun _ hK112 => ?_)
   refine mv ?_
   obtain ⟨t116, wt116, h⟩ := bind_some' h
   refine GO.shareR 1 rfl (fun S113 e114 q115 => ?_)
   refine st (cl fb154 (ih x78 q115 wt116) (fun v117 S118 e119 z120 => ?_))
   replace q115 := q115.up e119
   obtain rfl := z120
   refine mv ?_
   obtain ⟨t124, wt124, h⟩ := bind_some' h
   refine GO.shareR 0 rfl (fun S121 e122 q123 => ?_)
   replace q115 := q115.up e122
   refine st (cl fb154 (ih x76 q123 wt124) (fun v125 S126 e127 z128 => ?_))
   replace q123 := q123.up e127
   replace q115 := q115.up e127
   obtain rfl := z128
   obtain ⟨t129, wt129, h⟩ := bind_some' h
   refine st (cl fb60 (r16_Inner_ok t116 t124 wt129) (fun v130 S131 e132 z133 => ?_))
   replace q123 := q123.up e132
   replace q115 := q115.up e132
   obtain rfl := z133
   refine sf 2 4 [sV (.int .i64 t129.len), sL t129.bits, sL t129.sum, sV (.int .i64 t129.at_)] (aggV_cells _) (oI (oL (oL (oI oN)))) size45 ?_
   refine nt hK112 ?_
   refine G.ret ?_
   obtain rfl := Option.some.inj h
   exact hret _ _ _ _ 3 (l2 e56 (l2 e111 (l2 e114 (l2 e119 (l2 e122 (l2 e127 e132)))))) (.cons (.row (k := 2) rfl rfl row45 (by kernel_rfl)) .nil) rfl rfl
  ·exact ⟨Hp.le_refl _, v69, v67, rfl, rfl⟩
  rintro ⟨x75, x76, x78⟩ _ S73 _ ⟨e74, v77, v79, rfl, rfl⟩ out2 h hf2 K2 hK2 hx80
  rw [r16_Join_s2] at h
  replace qa0 := qa0.up e74
  refine sr (fun _ hK83 => ?_)
  refine vl (Y.ltI rfl rfl) ?_
  refine nt hK83 ?_
  refine G.seq (fun _ hK84 => ?_)
  refine G.cond _ rfl (fun c85 => ?_) (fun c85 => ?_)
  ·replace h := ite_t c85 h
   refine sk hK84 ?_
   refine G.seq (fun _ hK86 => ?_)
   refine G.block ?_
   refine sr (fun _ hK87 => ?_)
   obtain ⟨g88, h⟩ := req_bind h
   obtain ⟨ad89, p90, z91, q92⟩ := Sls.at qa0 g88
   refine vl (Y.idxS rfl z91 rfl slc46 g88) ?_
   refine vl (Y.loadS [sV (.int .i64 ((getI a0 x75).len)), sL ((getI a0 x75).bits), sL ((getI a0 x75).sum), sV (.int .i64 ((getI a0 x75).at_))] rfl (At.part q92 0 4 _ rfl rfl) row45 (by kernel_rfl)) ?_
   refine st (OS.alloc _ (by decide) zero45 (fun ad93 => ?_))
   refine sf 0 4 [sV (.int .i64 ((getI a0 x75).len)), sL ((getI a0 x75).bits), sL ((getI a0 x75).sum), sV (.int .i64 ((getI a0 x75).at_))] (aggV_cells _) (oI (oL (oL (oI oN)))) size45 ?_
   refine nt hK87 ?_
   refine sr (fun _ hK95 => ?_)
   refine vl (Y.fieldAddr 1 rfl fld45_1 rfl) ?_
   refine lb 0 1 1 [sL ((getI a0 x75).bits)] row23 ?_
   refine mv ?_
   obtain ⟨t96, wt96, h⟩ := bind_some' h
   refine st (cl fb63 (r01_Bit_ok ((getI a0 x75).bits) x19 wt96) (fun v97 S98 e99 z100 => ?_))
   replace qa0 := qa0.up e99
   replace q92 := q92.up e99
   obtain rfl := z100
   refine vl (Y.eqI rfl rfl) ?_
   refine nt hK95 ?_
   refine G.cond _ rfl (fun c101 => ?_) (fun c101 => ?_)
   ·replace h := ite_t c101 h
    refine G.region ?_
    refine mv ?_
    refine lb 0 0 4 [sV (.int .i64 ((getI a0 x75).len)), sL ((getI a0 x75).bits), sL ((getI a0 x75).sum), sV (.int .i64 ((getI a0 x75).at_))] row45 ?_
    refine bs ([(getI a0 x75)] : List Item) el46 (fun v102 => ?_)
    obtain ⟨g104, h⟩ := req_bind h
    refine st (OS.append (xs := x78) (ys := ([(getI a0 x75)] : List Item)) 3 (by decide) rfl rfl rfl (Rw.src (k := 0) rfl) el46 src46 g104 (fun v105 => ?_))
    refine an ?_
    refine GO.nil ?_
    refine GX.normal_block ?_
    refine GX.then hK86 ?_
    refine G.region ?_
    refine vl (Y.addI rfl rfl) ?_
    refine mv ?_
    refine GO.nil ?_
    obtain rfl := Option.some.inj h
    refine GX.keep [41, 40, 39, 7, 6, 3, 2] rfl ?_
    refine GX.less 2 rfl ?_
    exact hK2 _ _ _ _ rfl ⟨(l2 e74 e99), v77, v105, rfl, rfl⟩
   replace h := ite_f c101 h
   refine G.region ?_
   refine mv ?_
   refine lb 0 0 4 [sV (.int .i64 ((getI a0 x75).len)), sL ((getI a0 x75).bits), sL ((getI a0 x75).sum), sV (.int .i64 ((getI a0 x75).at_))] row45 ?_
   refine bs ([(getI a0 x75)] : List Item) el46 (fun v106 => ?_)
   obtain ⟨g108, h⟩ := req_bind h
   refine st (OS.append (xs := x76) (ys := ([(getI a0 x75)] : List Item)) 2 (by decide) rfl rfl rfl (Rw.src (k := 0) rfl) el46 src46 g108 (fun v109 => ?_))
   refine an ?_
   refine GO.nil ?_
   refine GX.normal_block ?_
   refine GX.then hK86 ?_
   refine G.region ?_
   refine vl (Y.addI rfl rfl) ?_
   refine mv ?_
   refine GO.nil ?_
   obtain rfl := Option.some.inj h
   refine GX.keep [41, 40, 39, 7, 6, 3, 2] rfl ?_
   refine GX.less 2 rfl ?_
   exact hK2 _ _ _ _ rfl ⟨(l2 e74 e99), v109, v79, rfl, rfl⟩
  replace h := ite_f c85 h
  refine G.exit ?_
  refine GX.exit_then ?_
  obtain rfl := Option.some.inj h
  refine GX.keep [7, 6, 2] rfl ?_
  exact hx80 _ _ _ ⟨_, _, _, _, _, e74, (hf2 _ rfl).symm, rfl, rfl⟩
 ·exact ⟨Hp.le_refl _, rfl, rfl⟩
 rintro ⟨x18, x19⟩ _ S16 _ ⟨e17, rfl, rfl⟩ out1 h hf1 K1 hK1 hx20
 rw [r16_Join_s1] at h
 replace qa0 := qa0.up e17
 refine sr (fun _ hK23 => ?_)
 refine vl (Y.ltI rfl rfl) ?_
 refine nt hK23 ?_
 refine G.seq (fun _ hK24 => ?_)
 refine G.cond _ rfl (fun c25 => ?_) (fun c25 => ?_)
 ·replace h := ite_t c25 h
  refine sk hK24 ?_
  refine G.seq (fun _ hK26 => ?_)
  refine G.block ?_
  refine sr (fun _ hK27 => ?_)
  obtain ⟨g28, h⟩ := req_bind h
  obtain ⟨ad29, p30, z31, q32⟩ := Sls.at qa0 g28
  refine vl (Y.idxS rfl z31 rfl slc46 g28) ?_
  refine vl (Y.loadS [sV (.int .i64 ((getI a0 x18).len)), sL ((getI a0 x18).bits), sL ((getI a0 x18).sum), sV (.int .i64 ((getI a0 x18).at_))] rfl (At.part q32 0 4 _ rfl rfl) row45 (by kernel_rfl)) ?_
  refine st (OS.alloc _ (by decide) zero45 (fun ad33 => ?_))
  refine sf 0 4 [sV (.int .i64 ((getI a0 x18).len)), sL ((getI a0 x18).bits), sL ((getI a0 x18).sum), sV (.int .i64 ((getI a0 x18).at_))] (aggV_cells _) (oI (oL (oL (oI oN)))) size45 ?_
  refine nt hK27 ?_
  obtain ⟨g35, h⟩ := req_bind h
  obtain ⟨ad36, p37, z38, q39⟩ := Sls.at qa0 g35
  obtain ⟨t40, wt40, h⟩ := bind_some' h
  refine G.drawN 10 mixed (by kernel_rfl) ?_
  refine tn 0 rfl hQ (fun _ _ _ => Y.move rfl) ?_
  refine tn 1 rfl hQ (fun _ _ _ => Y.move rfl) ?_
  refine tn 2 rfl hQ (fun _ _ _ => Y.idxS rfl z38 rfl slc46 g35) ?_
  refine tn 3 rfl hQ (fun _ _ _ => Y.fieldAddr _ rfl fld45_1 rfl) ?_
  refine tn 4 rfl hQ (fun S₀ X₀ e₀ => Y.loadS [sL ((getI a0 (0 : Int)).bits)] rfl (At.part (q39.up e₀) 1 1 _ rfl rfl) row23 (by kernel_rfl)) ?_
  refine tn 5 rfl hQ (fun _ _ _ => Y.fieldAddr 1 rfl fld45_1 rfl) ?_
  refine tn 6 rfl hQ (fun S₀ X₀ e₀ => Y.loadB (X₀.length + 0)  1 1 [sL ((getI a0 x18).bits)] rfl (Lk rfl) rfl rfl row23 (by kernel_rfl)) ?_
  refine g1 7 ?_
  refine n1 rfl (cl fb135 (r01_Common_ok ((getI a0 (0 : Int)).bits) ((getI a0 x18).bits) wt40) (fun v48 S49 e50 z51 => ⟨⟨[], .refl, e50⟩, ?_⟩))
  have q52 := qa0.up e50
  have q53 := q32.up e50
  have q54 := q39.up e50
  obtain rfl := z51
  refine tn 8 rfl hQ (fun _ _ _ => Y.minI rfl rfl) ?_
  refine tn 9 rfl hQ (fun _ _ _ => Y.assign rfl) ?_
  refine dn ?_
  refine GX.normal_block ?_
  refine GX.then hK26 ?_
  refine G.region ?_
  refine vl (Y.addI rfl rfl) ?_
  refine mv ?_
  refine GO.nil ?_
  obtain rfl := Option.some.inj h
  refine GX.keep [18, 17, 16, 3, 2, 0] rfl ?_
  refine GX.less 1 rfl ?_
  exact hK1 _ _ _ _ rfl ⟨(l2 e17 e50), rfl, rfl⟩
 replace h := ite_f c25 h
 refine G.exit ?_
 refine GX.exit_then ?_
 obtain rfl := Option.some.inj h
 refine GX.keep [3, 2, 0] rfl ?_
 exact hx20 _ _ _ ⟨_, _, e17, (hf1 _ rfl).symm, rfl, rfl⟩

end
end Go.Ch
end
section
/- Functions of the program: what each comes to, proved. -/
set_option linter.unusedVariables false
set_option linter.unusedSimpArgs false
set_option maxRecDepth 100000
set_option maxHeartbeats 4000000
namespace Go.Ch
open Go.RowKit (wrap64)
open Go.Proofs
noncomputable section
/- chirograph/chirographref18.Check -/
def r18_Check  (a0 : Lab) (a1 : Lab) (a2 : Proof) : Option (Leaf × Bool × Int) :=
 ((r18_Nodes a2 a1).bind fun t13 => (if (t13.2.2 != (0 : Int)) = true then some ((⟨zL, zL, 0⟩ : Leaf), false, t13.2.2) else ((r03_Sum ([18] : Str)).bind fun t27 => (if (decide ((0 : Int) < (lenI t13.2.1))) = true then ((req ((0 : Int) ≤ (wrap64 ((lenI t13.2.1) - (1 : Int))) ∧ (wrap64 ((lenI t13.2.1) - (1 : Int))) < lenI t13.2.1)).bind fun _ => (if (!(((getI t13.2.1 (wrap64 ((lenI t13.2.1) - (1 : Int)))).sum) == a0)) = true then some ((⟨zL, zL, 0⟩ : Leaf), false, (11 : Int)) else ((if (a2.end_ == (1 : Int)) = true then some (a2.leaf.label == a1) else some false).bind fun b48 => (if b48 = true then some (a2.leaf, true, (0 : Int)) else some ((⟨zL, zL, 0⟩ : Leaf), false, (0 : Int)))))) else (if (!(t27 == a0)) = true then some ((⟨zL, zL, 0⟩ : Leaf), false, (11 : Int)) else ((if (a2.end_ == (1 : Int)) = true then some (a2.leaf.label == a1) else some false).bind fun b62 => (if b62 = true then some (a2.leaf, true, (0 : Int)) else some ((⟨zL, zL, 0⟩ : Leaf), false, (0 : Int)))))))))

theorem r18_Check_ok {S : Hp} (a0 : Lab) (a1 : Lab) (a2 : Proof) {v1 : Value} (q2 : Sls S v1 a2.path) {r : Leaf × Bool × Int} (h : r18_Check a0 a1 a2 = some r) : Fn Tryz.prog 9 [aggV [sL a0], aggV [sL a1], aggV [sV (.int .i64 a2.end_), sL a2.leaf.label, sL a2.leaf.value, sV (.int .i64 a2.leaf.at_), sV (.int .i64 a2.a.len), sL a2.a.bits, sL a2.a.sum, sV (.int .i64 a2.a.at_), sV (.int .i64 a2.b.len), sL a2.b.bits, sL a2.b.sum, sV (.int .i64 a2.b.at_), sV v1]] S (fun v S' => v = .tuple #[aggV [sL r.1.label, sL r.1.value, sV (.int .i64 r.1.at_)], .bool r.2.1, .int .i64 r.2.2]) := by
 unfold r18_Check at h
 refine fo [.cell 6 41, .tmp 7, .tmp 8] 52 Tryz.func9 Tryz.ntmps9 (fun o F Q hQ hN hret => ?_)
 refine sr (fun _ hK3 => ?_)
 refine st (OS.boxA (by decide) rfl (fun ad4 => ?_))
 refine st (OS.boxA (by decide) rfl (fun ad6 => ?_))
 refine st (OS.boxA (by decide) rfl (fun ad8 => ?_))
 refine st (OS.alloc _ (by decide) zero41 (fun ad10 => ?_))
 refine an ?_
 refine an ?_
 refine nt hK3 ?_
 refine sr (fun _ hK12 => ?_)
 refine lb 1 0 13 [sV (.int .i64 a2.end_), sL a2.leaf.label, sL a2.leaf.value, sV (.int .i64 a2.leaf.at_), sV (.int .i64 a2.a.len), sL a2.a.bits, sL a2.a.sum, sV (.int .i64 a2.a.at_), sV (.int .i64 a2.b.len), sL a2.b.bits, sL a2.b.sum, sV (.int .i64 a2.b.at_), sV v1] row48 ?_
 refine lb 2 0 1 [sL a1] row23 ?_
 obtain ⟨t13, wt13, h⟩ := bind_some' h
 refine st (cl fb15 (r18_Nodes_ok a2 a1 q2 wt13) (fun v14 S15 e16 z17 => ?_))
 replace q2 := q2.up e16
 obtain ⟨v18, v20, rfl, q19, q21⟩ := z17
 refine mv ?_
 refine vl (Y.extract _ rfl rfl) ?_
 refine vl (Y.extract _ rfl rfl) ?_
 refine vl (Y.extract _ rfl rfl) ?_
 refine an ?_
 refine an ?_
 refine an ?_
 refine nt hK12 ?_
 refine G.seq (fun _ hK22 => ?_)
 refine sr (fun _ hK23 => ?_)
 refine mv ?_
 refine vl (Y.neI rfl rfl) ?_
 refine nt hK23 ?_
 refine G.cond _ rfl (fun c24 => ?_) (fun c24 => ?_)
 ·replace h := ite_t c24 h
  refine sr (fun _ hK25 => ?_)
  refine vl (Y.buildE _ [sL zL, sL zL, sV (.int .i64 0)] strt41 zero41 rfl .nil) ?_
  refine mv ?_
  refine sf 0 3 [sL zL, sL zL, sV (.int .i64 0)] (aggV_cells _) (oL (oL (oI oN))) size41 ?_
  refine an ?_
  refine an ?_
  refine nt hK25 ?_
  refine G.ret ?_
  obtain rfl := Option.some.inj h
  exact hret _ _ _ _ 4 e16 (.cons (.row (k := 0) rfl rfl row41 (by kernel_rfl)) (.cons (.tmp rfl) (.cons (.tmp rfl) .nil))) rfl rfl
 replace h := ite_f c24 h
 refine sk hK22 ?_
 refine sr (fun _ hK26 => ?_)
 obtain ⟨t27, wt27, h⟩ := bind_some' h
 refine st (cl fb39 (r03_Sum_ok ([18] : Str) wt27) (fun v28 S29 e30 z31 => ?_))
 replace q2 := q2.up e30
 replace q19 := q19.up e30
 replace q21 := q21.up e30
 obtain rfl := z31
 refine st (OS.alloc _ (by decide) zero23 (fun ad32 => ?_))
 refine sf 0 1 [sL t27] (aggV_cells _) (oL oN) size23 ?_
 refine nt hK26 ?_
 refine G.seq (fun _ hK34 => ?_)
 refine sr (fun _ hK35 => ?_)
 refine mv ?_
 refine vl (Y.lenS rfl q21 slc46) ?_
 refine vl (Y.gtI rfl rfl) ?_
 refine nt hK35 ?_
 refine G.cond _ rfl (fun c36 => ?_) (fun c36 => ?_)
 ·replace h := ite_t c36 h
  refine G.region ?_
  refine mv ?_
  refine mv ?_
  refine vl (Y.lenS rfl q21 slc46) ?_
  refine vl (Y.subI rfl rfl) ?_
  obtain ⟨g37, h⟩ := req_bind h
  obtain ⟨ad38, p39, z40, q41⟩ := Sls.at q21 g37
  refine vl (Y.idxS rfl z40 rfl slc46 g37) ?_
  refine vl (Y.fieldAddr _ rfl fld45_2 rfl) ?_
  refine vl (Y.loadS [sL ((getI t13.2.1 (wrap64 ((lenI t13.2.1) - (1 : Int)))).sum)] rfl (At.part q41 2 1 _ rfl rfl) row23 (by kernel_rfl)) ?_
  refine sf 0 1 [sL ((getI t13.2.1 (wrap64 ((lenI t13.2.1) - (1 : Int)))).sum)] (aggV_cells _) (oL oN) size23 ?_
  refine nt hK34 ?_
  refine G.seq (fun _ hK42 => ?_)
  refine sr (fun _ hK43 => ?_)
  refine lb 0 0 1 [sL ((getI t13.2.1 (wrap64 ((lenI t13.2.1) - (1 : Int)))).sum)] row23 ?_
  refine lb 4 0 1 [sL a0] row23 ?_
  refine vl (Y.neA rfl rfl eqt23 (by decide) (EqV.lab _ _ Tryz.underlying23 one5 Tryz.underlying5)) ?_
  refine nt hK43 ?_
  refine G.cond _ rfl (fun c44 => ?_) (fun c44 => ?_)
  ·replace h := ite_t c44 h
   refine sr (fun _ hK45 => ?_)
   refine vl (Y.buildE _ [sL zL, sL zL, sV (.int .i64 0)] strt41 zero41 rfl .nil) ?_
   refine sf 1 3 [sL zL, sL zL, sV (.int .i64 0)] (aggV_cells _) (oL (oL (oI oN))) size41 ?_
   refine an ?_
   refine an ?_
   refine nt hK45 ?_
   refine G.ret ?_
   obtain rfl := Option.some.inj h
   exact hret _ _ _ _ 5 (l2 e16 e30) (.cons (.row (k := 1) rfl rfl row41 (by kernel_rfl)) (.cons (.tmp rfl) (.cons (.tmp rfl) .nil))) rfl rfl
  replace h := ite_f c44 h
  refine sk hK42 ?_
  refine G.seq (fun _ hK46 => ?_)
  refine sr (fun _ hK47 => ?_)
  refine vl (Y.fieldAddr 0 rfl fld48_0 rfl) ?_
  refine lv 2 0 one3 ?_
  refine vl (Y.eqI rfl rfl) ?_
  refine mv ?_
  obtain ⟨b48, wb48, h⟩ := bind_some' h
  refine GO.joinB 6 48 (b48 = ·) (fun K50 hK50 => ?_) ?_
  ·replace h := wb48
   rcases Bool.eq_false_or_eq_true (a2.end_ == (1 : Int)) with c49 | c49
   ·replace h := ite_t c49 h
    refine gv 42 c49 (Y.fieldAddr 1 rfl fld48_1 rfl) ?_
    refine gv 42 c49 (Y.fieldAddr 1 rfl fld41_0 rfl) ?_
    refine gv 42 c49 (Y.loadB 2  1 1 [sL a2.leaf.label] rfl rfl rfl rfl row23 (by kernel_rfl)) ?_
    refine gv 42 c49 (Y.loadB 3  0 1 [sL a1] rfl rfl rfl rfl row23 (by kernel_rfl)) ?_
    refine gv 42 c49 (Y.eqA rfl rfl eqt23 (by decide) (EqV.lab _ _ Tryz.underlying23 one5 Tryz.underlying5)) ?_
    refine vl (Y.pickT _ c49 rfl rfl) ?_
    refine GO.nil ?_
    refine p2 (p2 (p2 (p2 (p2 ?_))))
    exact hK50 _ _ l0 (Option.some.inj h).symm
   replace h := ite_f c49 h
   refine gf 42 c49 ?_
   refine gf 42 c49 ?_
   refine gf 42 c49 ?_
   refine gf 42 c49 ?_
   refine gf 42 c49 ?_
   refine vl (Y.pickF _ c49 rfl rfl) ?_
   refine GO.nil ?_
   refine p2 (p2 (p2 (p2 (p2 ?_))))
   exact hK50 _ _ l0 (Option.some.inj h).symm
  rintro _ S51 e52 rfl
  replace q2 := q2.up e52
  replace q19 := q19.up e52
  replace q21 := q21.up e52
  replace q41 := q41.up e52
  refine nt hK47 ?_
  refine G.cond _ rfl (fun c53 => ?_) (fun c53 => ?_)
  ·replace h := ite_t c53 h
   refine sr (fun _ hK54 => ?_)
   refine vl (Y.fieldAddr 1 rfl fld48_1 rfl) ?_
   refine lb 2 1 3 [sL a2.leaf.label, sL a2.leaf.value, sV (.int .i64 a2.leaf.at_)] row41 ?_
   refine sf 1 3 [sL a2.leaf.label, sL a2.leaf.value, sV (.int .i64 a2.leaf.at_)] (aggV_cells _) (oL (oL (oI oN))) size41 ?_
   refine an ?_
   refine an ?_
   refine nt hK54 ?_
   refine G.ret ?_
   obtain rfl := Option.some.inj h
   exact hret _ _ _ _ 5 (l2 e16 (l2 e30 e52)) (.cons (.row (k := 1) rfl rfl row41 (by kernel_rfl)) (.cons (.tmp rfl) (.cons (.tmp rfl) .nil))) rfl rfl
  replace h := ite_f c53 h
  refine sk hK46 ?_
  refine sr (fun _ hK55 => ?_)
  refine vl (Y.buildE _ [sL zL, sL zL, sV (.int .i64 0)] strt41 zero41 rfl .nil) ?_
  refine sf 1 3 [sL zL, sL zL, sV (.int .i64 0)] (aggV_cells _) (oL (oL (oI oN))) size41 ?_
  refine an ?_
  refine an ?_
  refine nt hK55 ?_
  refine G.ret ?_
  obtain rfl := Option.some.inj h
  exact hret _ _ _ _ 5 (l2 e16 (l2 e30 e52)) (.cons (.row (k := 1) rfl rfl row41 (by kernel_rfl)) (.cons (.tmp rfl) (.cons (.tmp rfl) .nil))) rfl rfl
 replace h := ite_f c36 h
 refine sk hK34 ?_
 refine G.seq (fun _ hK56 => ?_)
 refine sr (fun _ hK57 => ?_)
 refine lb 0 0 1 [sL t27] row23 ?_
 refine lb 4 0 1 [sL a0] row23 ?_
 refine vl (Y.neA rfl rfl eqt23 (by decide) (EqV.lab _ _ Tryz.underlying23 one5 Tryz.underlying5)) ?_
 refine nt hK57 ?_
 refine G.cond _ rfl (fun c58 => ?_) (fun c58 => ?_)
 ·replace h := ite_t c58 h
  refine sr (fun _ hK59 => ?_)
  refine vl (Y.buildE _ [sL zL, sL zL, sV (.int .i64 0)] strt41 zero41 rfl .nil) ?_
  refine sf 1 3 [sL zL, sL zL, sV (.int .i64 0)] (aggV_cells _) (oL (oL (oI oN))) size41 ?_
  refine an ?_
  refine an ?_
  refine nt hK59 ?_
  refine G.ret ?_
  obtain rfl := Option.some.inj h
  exact hret _ _ _ _ 5 (l2 e16 e30) (.cons (.row (k := 1) rfl rfl row41 (by kernel_rfl)) (.cons (.tmp rfl) (.cons (.tmp rfl) .nil))) rfl rfl
 replace h := ite_f c58 h
 refine sk hK56 ?_
 refine G.seq (fun _ hK60 => ?_)
 refine sr (fun _ hK61 => ?_)
 refine vl (Y.fieldAddr 0 rfl fld48_0 rfl) ?_
 refine lv 2 0 one3 ?_
 refine vl (Y.eqI rfl rfl) ?_
 refine mv ?_
 obtain ⟨b62, wb62, h⟩ := bind_some' h
 refine GO.joinB 6 48 (b62 = ·) (fun K64 hK64 => ?_) ?_
 ·replace h := wb62
  rcases Bool.eq_false_or_eq_true (a2.end_ == (1 : Int)) with c63 | c63
  ·replace h := ite_t c63 h
   refine gv 42 c63 (Y.fieldAddr 1 rfl fld48_1 rfl) ?_
   refine gv 42 c63 (Y.fieldAddr 1 rfl fld41_0 rfl) ?_
   refine gv 42 c63 (Y.loadB 2  1 1 [sL a2.leaf.label] rfl rfl rfl rfl row23 (by kernel_rfl)) ?_
   refine gv 42 c63 (Y.loadB 3  0 1 [sL a1] rfl rfl rfl rfl row23 (by kernel_rfl)) ?_
   refine gv 42 c63 (Y.eqA rfl rfl eqt23 (by decide) (EqV.lab _ _ Tryz.underlying23 one5 Tryz.underlying5)) ?_
   refine vl (Y.pickT _ c63 rfl rfl) ?_
   refine GO.nil ?_
   refine p2 (p2 (p2 (p2 (p2 ?_))))
   exact hK64 _ _ l0 (Option.some.inj h).symm
  replace h := ite_f c63 h
  refine gf 42 c63 ?_
  refine gf 42 c63 ?_
  refine gf 42 c63 ?_
  refine gf 42 c63 ?_
  refine gf 42 c63 ?_
  refine vl (Y.pickF _ c63 rfl rfl) ?_
  refine GO.nil ?_
  refine p2 (p2 (p2 (p2 (p2 ?_))))
  exact hK64 _ _ l0 (Option.some.inj h).symm
 rintro _ S65 e66 rfl
 replace q2 := q2.up e66
 replace q19 := q19.up e66
 replace q21 := q21.up e66
 refine nt hK61 ?_
 refine G.cond _ rfl (fun c67 => ?_) (fun c67 => ?_)
 ·replace h := ite_t c67 h
  refine sr (fun _ hK68 => ?_)
  refine vl (Y.fieldAddr 1 rfl fld48_1 rfl) ?_
  refine lb 2 1 3 [sL a2.leaf.label, sL a2.leaf.value, sV (.int .i64 a2.leaf.at_)] row41 ?_
  refine sf 1 3 [sL a2.leaf.label, sL a2.leaf.value, sV (.int .i64 a2.leaf.at_)] (aggV_cells _) (oL (oL (oI oN))) size41 ?_
  refine an ?_
  refine an ?_
  refine nt hK68 ?_
  refine G.ret ?_
  obtain rfl := Option.some.inj h
  exact hret _ _ _ _ 5 (l2 e16 (l2 e30 e66)) (.cons (.row (k := 1) rfl rfl row41 (by kernel_rfl)) (.cons (.tmp rfl) (.cons (.tmp rfl) .nil))) rfl rfl
 replace h := ite_f c67 h
 refine sk hK60 ?_
 refine sr (fun _ hK69 => ?_)
 refine vl (Y.buildE _ [sL zL, sL zL, sV (.int .i64 0)] strt41 zero41 rfl .nil) ?_
 refine sf 1 3 [sL zL, sL zL, sV (.int .i64 0)] (aggV_cells _) (oL (oL (oI oN))) size41 ?_
 refine an ?_
 refine an ?_
 refine nt hK69 ?_
 refine G.ret ?_
 obtain rfl := Option.some.inj h
 exact hret _ _ _ _ 5 (l2 e16 (l2 e30 e66)) (.cons (.row (k := 1) rfl rfl row41 (by kernel_rfl)) (.cons (.tmp rfl) (.cons (.tmp rfl) .nil))) rfl rfl

/- chirograph/chirographref18.sides -/
def r18_sides_s1 (a0 : (List Item)) (a1 : Int) : (Int × (List Item) × (List Item)) → Option ((Int × (List Item) × (List Item)) ⊕ (Int × (List Item) × (List Item)))
 | (x11, x12, x14) => (if (decide (x11 < (lenI a0))) = true then ((req ((0 : Int) ≤ x11 ∧ x11 < lenI a0)).bind fun _ => ((r01_Bit ((getI a0 x11).bits) a1).bind fun t32 => (if (t32 == (0 : Int)) = true then ((req (List.length x14 + List.length ([(getI a0 x11)] : List Item) ≤ LIM)).bind fun _ => some (.inl ((wrap64 (x11 + (1 : Int))), x12, (x14 ++ ([(getI a0 x11)] : List Item))))) else ((req (List.length x12 + List.length ([(getI a0 x11)] : List Item) ≤ LIM)).bind fun _ => some (.inl ((wrap64 (x11 + (1 : Int))), (x12 ++ ([(getI a0 x11)] : List Item)), x14)))))) else some (.inr (x11, x12, x14)))

def r18_sides  (a0 : (List Item)) (a1 : Int) : Option ((List Item) × (List Item)) :=
 ((iter (r18_sides_s1 a0 a1) ((0 : Int), ([] : List Item), ([] : List Item))).bind fun b17 => (match b17 with | (x11, x12, x14) => some (x14, x12)))

theorem r18_sides_ok {S : Hp} (a0 : (List Item)) (a1 : Int) {va0 : Value} (qa0 : Sls S va0 a0) {r : (List Item) × (List Item)} (h : r18_sides a0 a1 = some r) : Fn Tryz.prog 185 [va0, .int .i64 a1] S (fun v S' => ∃ (v0₁ : Value) (v1₁ : Value), v = .tuple #[v0₁, v1₁] ∧ Sls S' v0₁ r.1 ∧ Sls S' v1₁ r.2) := by
 unfold r18_sides at h
 refine fo [.tmp 4, .tmp 5] 34 Tryz.func185 Tryz.ntmps185 (fun o F Q hQ hN hret => ?_)
 refine sr (fun _ hK1 => ?_)
 refine an ?_
 refine an ?_
 refine nt hK1 ?_
 refine sr (fun _ hK2 => ?_)
 refine bs ([] : List Item) el46 (fun v3 => ?_)
 refine bs ([] : List Item) el46 (fun v5 => ?_)
 refine an ?_
 refine an ?_
 refine nt hK2 ?_
 refine G.seq (fun _ hK7 => ?_)
 refine sr (fun _ hK8 => ?_)
 refine mv ?_
 refine vl (Y.lenS rfl qa0 slc46) ?_
 refine mv ?_
 refine nt hK8 ?_
 refine G.block ?_
 obtain ⟨b17, wb17, ho18⟩ := bind_some' h
 refine G.keep [14, 13, 12, 7, 6, 1] rfl ?_
 refine G.loopK (r18_sides_s1 a0 a1) (fun s₀ E' S' L' => match s₀ with | (x11, x12, x14) => S.le S' ∧ ∃ (v13 : Value) (v15 : Value), E' = [(14, .int .i64 x11), (13, .int .i64 (lenI a0)), (12, va0), (7, v13), (6, v15), (1, .int .i64 a1)] ∧ Rw v13 x12 :: Rw v15 x14 :: F = L') b17 0 (fun E₀ S₀ L₀ => ∃ (x11 : Int) (x12 : (List Item)) (x14 : (List Item)) (v13 : Value) (v15 : Value), S.le S₀ ∧ b17 = (x11, x12, x14) ∧ E₀ = [(7, v13), (6, v15)] ∧ Rw v13 x12 :: Rw v15 x14 :: F = L₀) wb17 ?_ ?_ ?_
 ·rintro _ S46 _ ⟨x11, x12, x14, v13, v15, e47, rfl, rfl, rfl⟩
  have h := ho18; clear ho18
  try dsimp only at h
  refine GX.exit_block ?_
  refine GX.then hK7 ?_
  refine sr (fun _ hK48 => ?_)
  refine mv ?_
  refine mv ?_
  refine an ?_
  refine an ?_
  refine nt hK48 ?_
  refine G.ret ?_
  refine GX.shareR 1 rfl (fun S49 e50 q51 => ?_)
  refine GX.shareR 0 rfl (fun S52 e53 q54 => ?_)
  replace q51 := q51.up e53
  obtain rfl := Option.some.inj h
  exact hret _ _ _ _ 2 (l2 e47 (l2 e50 e53)) (.cons (.tmp rfl) (.cons (.tmp rfl) .nil)) ⟨_, _, rfl, q51, q54⟩ rfl
 ·exact ⟨Hp.le_refl _, v5, v3, rfl, rfl⟩
 rintro ⟨x11, x12, x14⟩ _ S9 _ ⟨e10, v13, v15, rfl, rfl⟩ out1 h hf1 K1 hK1 hx16
 rw [r18_sides_s1] at h
 replace qa0 := qa0.up e10
 refine sr (fun _ hK19 => ?_)
 refine vl (Y.ltI rfl rfl) ?_
 refine nt hK19 ?_
 refine G.seq (fun _ hK20 => ?_)
 refine G.cond _ rfl (fun c21 => ?_) (fun c21 => ?_)
 ·replace h := ite_t c21 h
  refine sk hK20 ?_
  refine G.seq (fun _ hK22 => ?_)
  refine G.block ?_
  refine sr (fun _ hK23 => ?_)
  obtain ⟨g24, h⟩ := req_bind h
  obtain ⟨ad25, p26, z27, q28⟩ := Sls.at qa0 g24
  refine vl (Y.idxS rfl z27 rfl slc46 g24) ?_
  refine vl (Y.loadS [sV (.int .i64 ((getI a0 x11).len)), sL ((getI a0 x11).bits), sL ((getI a0 x11).sum), sV (.int .i64 ((getI a0 x11).at_))] rfl (At.part q28 0 4 _ rfl rfl) row45 (by kernel_rfl)) ?_
  refine st (OS.alloc _ (by decide) zero45 (fun ad29 => ?_))
  refine sf 0 4 [sV (.int .i64 ((getI a0 x11).len)), sL ((getI a0 x11).bits), sL ((getI a0 x11).sum), sV (.int .i64 ((getI a0 x11).at_))] (aggV_cells _) (oI (oL (oL (oI oN)))) size45 ?_
  refine nt hK23 ?_
  refine sr (fun _ hK31 => ?_)
  refine vl (Y.fieldAddr 1 rfl fld45_1 rfl) ?_
  refine lb 0 1 1 [sL ((getI a0 x11).bits)] row23 ?_
  refine mv ?_
  obtain ⟨t32, wt32, h⟩ := bind_some' h
  refine st (cl fb63 (r01_Bit_ok ((getI a0 x11).bits) a1 wt32) (fun v33 S34 e35 z36 => ?_))
  replace qa0 := qa0.up e35
  replace q28 := q28.up e35
  obtain rfl := z36
  refine vl (Y.eqI rfl rfl) ?_
  refine nt hK31 ?_
  refine G.cond _ rfl (fun c37 => ?_) (fun c37 => ?_)
  ·replace h := ite_t c37 h
   refine G.region ?_
   refine mv ?_
   refine lb 0 0 4 [sV (.int .i64 ((getI a0 x11).len)), sL ((getI a0 x11).bits), sL ((getI a0 x11).sum), sV (.int .i64 ((getI a0 x11).at_))] row45 ?_
   refine bs ([(getI a0 x11)] : List Item) el46 (fun v38 => ?_)
   obtain ⟨g40, h⟩ := req_bind h
   refine st (OS.append (xs := x14) (ys := ([(getI a0 x11)] : List Item)) 3 (by decide) rfl rfl rfl (Rw.src (k := 0) rfl) el46 src46 g40 (fun v41 => ?_))
   refine an ?_
   refine GO.nil ?_
   refine GX.normal_block ?_
   refine GX.then hK22 ?_
   refine G.region ?_
   refine vl (Y.addI rfl rfl) ?_
   refine mv ?_
   refine GO.nil ?_
   obtain rfl := Option.some.inj h
   refine GX.keep [14, 13, 12, 7, 6, 1] rfl ?_
   refine GX.less 2 rfl ?_
   exact hK1 _ _ _ _ rfl ⟨(l2 e10 e35), v13, v41, rfl, rfl⟩
  replace h := ite_f c37 h
  refine G.region ?_
  refine mv ?_
  refine lb 0 0 4 [sV (.int .i64 ((getI a0 x11).len)), sL ((getI a0 x11).bits), sL ((getI a0 x11).sum), sV (.int .i64 ((getI a0 x11).at_))] row45 ?_
  refine bs ([(getI a0 x11)] : List Item) el46 (fun v42 => ?_)
  obtain ⟨g44, h⟩ := req_bind h
  refine st (OS.append (xs := x12) (ys := ([(getI a0 x11)] : List Item)) 2 (by decide) rfl rfl rfl (Rw.src (k := 0) rfl) el46 src46 g44 (fun v45 => ?_))
  refine an ?_
  refine GO.nil ?_
  refine GX.normal_block ?_
  refine GX.then hK22 ?_
  refine G.region ?_
  refine vl (Y.addI rfl rfl) ?_
  refine mv ?_
  refine GO.nil ?_
  obtain rfl := Option.some.inj h
  refine GX.keep [14, 13, 12, 7, 6, 1] rfl ?_
  refine GX.less 2 rfl ?_
  exact hK1 _ _ _ _ rfl ⟨(l2 e10 e35), v45, v15, rfl, rfl⟩
 replace h := ite_f c21 h
 refine G.exit ?_
 refine GX.exit_then ?_
 obtain rfl := Option.some.inj h
 refine GX.keep [7, 6] rfl ?_
 exact hx16 _ _ _ ⟨_, _, _, _, _, e10, (hf1 _ rfl).symm, rfl, rfl⟩

/- chirograph/chirographref18.Make -/
def r18_Make_s2 (a0 : (List Leaf)) (x20 : (List Item)) : (Int × Int × Lab × Lab × Int) → Option ((Int × Int × Lab × Lab × Int) ⊕ (Int × Int × Lab × Lab × Int))
 | (x150, x151, x152, x153, x154) => (if (decide (x150 < (lenI a0))) = true then ((req ((0 : Int) ≤ x150 ∧ x150 < lenI a0)).bind fun _ => ((if ((lenI x20) == (1 : Int)) = true then ((req ((0 : Int) ≤ (0 : Int) ∧ (0 : Int) < lenI x20)).bind fun _ => some (((getI a0 x150).label) == ((getI x20 (0 : Int)).bits))) else some false).bind fun b172 => (if b172 = true then some (.inl ((wrap64 (x150 + (1 : Int))), (1 : Int), (getI a0 x150).label, (getI a0 x150).value, (getI a0 x150).at_)) else some (.inl ((wrap64 (x150 + (1 : Int))), x151, x152, x153, x154))))) else some (.inr (x150, x151, x152, x153, x154)))

def r18_Make_s1 (k : Nat) (a1 : Lab) : ((List Item) × (List Item)) → Option (((List Item) × (List Item)) ⊕ (Proof ⊕ ((List Item) × (List Item))))
 | (x20, x23) => (if (decide ((1 : Int) < (lenI x20))) = true then ((r16_Join k x20).bind fun t33 => ((r18_sides x20 t33.len).bind fun t41 => ((r18_has t33 a1).bind fun t52 => (if (!t52) = true then ((r16_Join k t41.1).bind fun t60 => ((r16_Join k t41.2).bind fun t66 => some (.inr (.inl (⟨(2 : Int), (⟨zL, zL, 0⟩ : Leaf), t60, t66, x23⟩ : Proof))))) else ((r01_Bit a1 t33.len).bind fun t74 => (if (t74 == (1 : Int)) = true then ((r16_Join k t41.1).bind fun t81 => ((req (List.length ([t81] : List Item) + List.length x23 ≤ LIM)).bind fun _ => some (.inl (t41.2, (([t81] : List Item) ++ x23))))) else ((r16_Join k t41.2).bind fun t113 => ((req (List.length ([t113] : List Item) + List.length x23 ≤ LIM)).bind fun _ => some (.inl (t41.1, (([t113] : List Item) ++ x23))))))))))) else some (.inr (.inr (x20, x23))))

def r18_Make (k : Nat) (a0 : (List Leaf)) (a1 : Lab) : Option Proof :=
 ((r16_Of a0).bind fun t7 => ((iter (r18_Make_s1 k a1) (t7, [])).bind fun b27 => (match b27 with | .inl r₀ => some r₀ | .inr (x20, x23) => ((iter (r18_Make_s2 a0 x20) ((0 : Int), 0, zL, zL, 0)).bind fun b156 => (match b156 with | (x150, x151, x152, x153, x154) => some (⟨x151, (⟨x152, x153, x154⟩ : Leaf), (⟨0, zL, zL, 0⟩ : Item), (⟨0, zL, zL, 0⟩ : Item), x23⟩ : Proof))))))

theorem r18_Make_ok {S : Hp} (k : Nat) (a0 : (List Leaf)) (a1 : Lab) {va0 : Value} (qa0 : Sls S va0 a0) {r : Proof} (h : r18_Make k a0 a1 = some r) : Fn Tryz.prog 131 [va0, aggV [sL a1]] S (fun v S' => ∃ (v186 : Value), v = aggV [sV (.int .i64 r.end_), sL r.leaf.label, sL r.leaf.value, sV (.int .i64 r.leaf.at_), sV (.int .i64 r.a.len), sL r.a.bits, sL r.a.sum, sV (.int .i64 r.a.at_), sV (.int .i64 r.b.len), sL r.b.bits, sL r.b.sum, sV (.int .i64 r.b.at_), sV v186] ∧ Sls S' v186 r.path) := by
 unfold r18_Make at h
 refine fo [.cell 4 48] 77 Tryz.func131 Tryz.ntmps131 (fun o F Q hQ hN hret => ?_)
 refine sr (fun _ hK1 => ?_)
 refine st (OS.boxA (by decide) rfl (fun ad2 => ?_))
 refine st (OS.alloc _ (by decide) zero48 (fun ad4 => ?_))
 refine nt hK1 ?_
 refine sr (fun _ hK6 => ?_)
 refine mv ?_
 obtain ⟨t7, wt7, h⟩ := bind_some' h
 refine st (cl fb50 (r16_Of_ok a0 qa0 wt7) (fun v8 S9 e10 z11 => ?_))
 replace qa0 := qa0.up e10
 have q13 := z11
 refine an ?_
 refine nt hK6 ?_
 refine sr (fun _ hK14 => ?_)
 refine vl (Y.buildE _ [sV (.int .i64 0), sL zL, sL zL, sV (.int .i64 0), sV (.int .i64 0), sL zL, sL zL, sV (.int .i64 0), sV (.int .i64 0), sL zL, sL zL, sV (.int .i64 0), sV (.slice none 0 0)] strt48 zero48 rfl .nil) ?_
 refine st (OS.alloc _ (by decide) zero48 (fun ad15 => ?_))
 refine sf 0 13 [sV (.int .i64 0), sL zL, sL zL, sV (.int .i64 0), sV (.int .i64 0), sL zL, sL zL, sV (.int .i64 0), sV (.int .i64 0), sL zL, sL zL, sV (.int .i64 0), sV (.slice none 0 0)] (aggV_cells _) (oI (oL (oL (oI (oI (oL (oL (oI (oI (oL (oL (oI (oI oN))))))))))))) size48 ?_
 refine nt hK14 ?_
 refine G.seq (fun _ hK17 => ?_)
 refine G.block ?_
 obtain ⟨b27, wb27, ho28⟩ := bind_some' h
 refine G.keep [6, 5, 4, 3, 0] rfl ?_
 refine G.loopK (r18_Make_s1 k a1) (fun s₀ E' S' L' => match s₀ with | (x20, x23) => S9.le S' ∧ ∃ (v21 : Value) (v24 : Value), Sls S' v21 x20 ∧ Sls S' v24 x23 ∧ E' = [(6, .pointer (some ⟨ad15, 0, none⟩)), (5, v21), (4, .pointer (some ⟨ad4, 0, none⟩)), (3, .pointer (some ⟨ad2, 0, none⟩)), (0, va0)] ∧ Blk ad15 [sV (.int .i64 0), sL zL, sL zL, sV (.int .i64 0), sV (.int .i64 0), sL zL, sL zL, sV (.int .i64 0), sV (.int .i64 0), sL zL, sL zL, sV (.int .i64 0), sV v24] :: Blk ad4 [sV (.int .i64 0), sL zL, sL zL, sV (.int .i64 0), sV (.int .i64 0), sL zL, sL zL, sV (.int .i64 0), sV (.int .i64 0), sL zL, sL zL, sV (.int .i64 0), sV (.slice none 0 0)] :: Blk ad2 [sL a1] :: F = L') b27 0 (fun E₀ S₀ L₀ => ∃ (x20 : (List Item)) (x23 : (List Item)) (v21 : Value) (v24 : Value), S9.le S₀ ∧ b27 = .inr (x20, x23) ∧ Sls S₀ v21 x20 ∧ Sls S₀ v24 x23 ∧ E₀ = [(6, .pointer (some ⟨ad15, 0, none⟩)), (5, v21), (4, .pointer (some ⟨ad4, 0, none⟩)), (0, va0)] ∧ Blk ad15 [sV (.int .i64 0), sL zL, sL zL, sV (.int .i64 0), sV (.int .i64 0), sL zL, sL zL, sV (.int .i64 0), sV (.int .i64 0), sL zL, sL zL, sV (.int .i64 0), sV v24] :: Blk ad4 [sV (.int .i64 0), sL zL, sL zL, sV (.int .i64 0), sV (.int .i64 0), sL zL, sL zL, sV (.int .i64 0), sV (.int .i64 0), sL zL, sL zL, sV (.int .i64 0), sV (.slice none 0 0)] :: Blk ad2 [sL a1] :: F = L₀) wb27 ?_ ?_ ?_
 ·rintro _ S144 _ ⟨x20, x23, v21, v24, e145, rfl, q22, q25, rfl, rfl⟩
  have h := ho28; clear ho28
  try dsimp only at h
  replace qa0 := qa0.up e145
  refine GX.exit_block ?_
  refine GX.then hK17 ?_
  refine G.seq (fun _ hK146 => ?_)
  refine sr (fun _ hK147 => ?_)
  refine mv ?_
  refine vl (Y.lenS rfl qa0 slc53) ?_
  refine mv ?_
  refine nt hK147 ?_
  refine G.block ?_
  obtain ⟨b156, wb156, ho157⟩ := bind_some' h
  refine G.keep [56, 55, 54, 6, 5, 4] rfl ?_
  refine G.loopK (r18_Make_s2 a0 x20) (fun s₀ E' S' L' => match s₀ with | (x150, x151, x152, x153, x154) => S144.le S' ∧ E' = [(56, .int .i64 x150), (55, .int .i64 (lenI a0)), (54, va0), (6, .pointer (some ⟨ad15, 0, none⟩)), (5, v21), (4, .pointer (some ⟨ad4, 0, none⟩))] ∧ Blk ad15 [sV (.int .i64 x151), sL x152, sL x153, sV (.int .i64 x154), sV (.int .i64 0), sL zL, sL zL, sV (.int .i64 0), sV (.int .i64 0), sL zL, sL zL, sV (.int .i64 0), sV v24] :: Blk ad4 [sV (.int .i64 0), sL zL, sL zL, sV (.int .i64 0), sV (.int .i64 0), sL zL, sL zL, sV (.int .i64 0), sV (.int .i64 0), sL zL, sL zL, sV (.int .i64 0), sV (.slice none 0 0)] :: Blk ad2 [sL a1] :: F = L') b156 2 (fun E₀ S₀ L₀ => ∃ (x150 : Int) (x151 : Int) (x152 : Lab) (x153 : Lab) (x154 : Int), S144.le S₀ ∧ b156 = (x150, x151, x152, x153, x154) ∧ E₀ = [(6, .pointer (some ⟨ad15, 0, none⟩)), (4, .pointer (some ⟨ad4, 0, none⟩))] ∧ Blk ad15 [sV (.int .i64 x151), sL x152, sL x153, sV (.int .i64 x154), sV (.int .i64 0), sL zL, sL zL, sV (.int .i64 0), sV (.int .i64 0), sL zL, sL zL, sV (.int .i64 0), sV v24] :: Blk ad4 [sV (.int .i64 0), sL zL, sL zL, sV (.int .i64 0), sV (.int .i64 0), sL zL, sL zL, sV (.int .i64 0), sV (.int .i64 0), sL zL, sL zL, sV (.int .i64 0), sV (.slice none 0 0)] :: Blk ad2 [sL a1] :: F = L₀) wb156 ?_ ?_ ?_
  ·rintro _ S183 _ ⟨x150, x151, x152, x153, x154, e184, rfl, rfl, rfl⟩
   have h := ho157; clear ho157
   try dsimp only at h
   replace q25 := q25.up e184
   refine GX.exit_block ?_
   refine GX.then hK146 ?_
   refine sr (fun _ hK185 => ?_)
   refine lb 0 0 13 [sV (.int .i64 x151), sL x152, sL x153, sV (.int .i64 x154), sV (.int .i64 0), sL zL, sL zL, sV (.int .i64 0), sV (.int .i64 0), sL zL, sL zL, sV (.int .i64 0), sV v24] row48 ?_
   refine sf 1 13 [sV (.int .i64 x151), sL x152, sL x153, sV (.int .i64 x154), sV (.int .i64 0), sL zL, sL zL, sV (.int .i64 0), sV (.int .i64 0), sL zL, sL zL, sV (.int .i64 0), sV v24] (aggV_cells _) (oI (oL (oL (oI (oI (oL (oL (oI (oI (oL (oL (oI (oV (q25.one) oN))))))))))))) size48 ?_
   refine nt hK185 ?_
   refine G.ret ?_
   obtain rfl := Option.some.inj h
   exact hret _ _ _ _ 3 (l2 e10 (l2 e145 e184)) (.cons (.row (k := 1) rfl rfl row48 (by kernel_rfl)) .nil) ⟨_, rfl, q25⟩ rfl
  ·exact ⟨Hp.le_refl _, rfl, rfl⟩
  rintro ⟨x150, x151, x152, x153, x154⟩ _ S148 _ ⟨e149, rfl, rfl⟩ out2 h hf2 K2 hK2 hx155
  rw [r18_Make_s2] at h
  replace qa0 := qa0.up e149
  replace q22 := q22.up e149
  replace q25 := q25.up e149
  refine sr (fun _ hK158 => ?_)
  refine vl (Y.ltI rfl rfl) ?_
  refine nt hK158 ?_
  refine G.seq (fun _ hK159 => ?_)
  refine G.cond _ rfl (fun c160 => ?_) (fun c160 => ?_)
  ·replace h := ite_t c160 h
   refine sk hK159 ?_
   refine G.seq (fun _ hK161 => ?_)
   refine G.block ?_
   refine sr (fun _ hK162 => ?_)
   obtain ⟨g163, h⟩ := req_bind h
   obtain ⟨ad164, p165, z166, q167⟩ := Sls.at qa0 g163
   refine vl (Y.idxS rfl z166 rfl slc53 g163) ?_
   refine vl (Y.loadS [sL ((getI a0 x150).label), sL ((getI a0 x150).value), sV (.int .i64 ((getI a0 x150).at_))] rfl (At.part q167 0 3 _ rfl rfl) row41 (by kernel_rfl)) ?_
   refine st (OS.alloc _ (by decide) zero41 (fun ad168 => ?_))
   refine sf 0 3 [sL ((getI a0 x150).label), sL ((getI a0 x150).value), sV (.int .i64 ((getI a0 x150).at_))] (aggV_cells _) (oL (oL (oI oN))) size41 ?_
   refine nt hK162 ?_
   refine G.seq (fun _ hK170 => ?_)
   obtain ⟨b172, wb172, h⟩ := bind_some' h
   refine G.cut (fun E₀ S₀ L₀ => S148.le S₀ ∧ E₀ = [(71, .bool b172), (11, .pointer (some ⟨ad168, 0, none⟩)), (56, .int .i64 x150), (55, .int .i64 (lenI a0)), (54, va0), (6, .pointer (some ⟨ad15, 0, none⟩)), (5, v21), (4, .pointer (some ⟨ad4, 0, none⟩))] ∧ Blk ad168 [sL ((getI a0 x150).label), sL ((getI a0 x150).value), sV (.int .i64 ((getI a0 x150).at_))] :: Blk ad15 [sV (.int .i64 x151), sL x152, sL x153, sV (.int .i64 x154), sV (.int .i64 0), sL zL, sL zL, sV (.int .i64 0), sV (.int .i64 0), sL zL, sL zL, sV (.int .i64 0), sV v24] :: Blk ad4 [sV (.int .i64 0), sL zL, sL zL, sV (.int .i64 0), sV (.int .i64 0), sL zL, sL zL, sV (.int .i64 0), sV (.int .i64 0), sL zL, sL zL, sV (.int .i64 0), sV (.slice none 0 0)] :: Blk ad2 [sL a1] :: F = L₀) (fun K171 hK171 => ?_) ?_
   ·replace h := wb172
    rcases Bool.eq_false_or_eq_true ((lenI x20) == (1 : Int)) with c173 | c173
    ·replace h := ite_t c173 h
     obtain ⟨g174, h⟩ := req_bind h
     obtain ⟨ad175, p176, z177, q178⟩ := Sls.at q22 g174
     obtain rfl := Option.some.inj h
     refine G.drawN 12 mixed (by kernel_rfl) ?_
     refine tn 0 rfl hQ (fun _ _ _ => Y.move rfl) ?_
     refine tn 1 rfl hQ (fun S₀ X₀ e₀ => Y.lenS rfl (q22.up e₀) slc46) ?_
     refine tn 2 rfl hQ (fun _ _ _ => Y.eqI rfl rfl) ?_
     refine tn 3 rfl hQ (fun _ _ _ => Y.move rfl) ?_
     refine tw 4 rfl .refl hQ (gi 63 c173) (fun _ _ _ => Y.fieldAddr 0 rfl fld41_0 rfl) ?_
     refine tw 5 rfl .refl hQ (gi 63 c173) (fun S₀ X₀ e₀ => Y.loadB (X₀.length + 0)  0 1 [sL ((getI a0 x150).label)] rfl (Lk rfl) rfl rfl row23 (by kernel_rfl)) ?_
     refine tw 6 rfl .refl hQ (gi 63 c173) (fun _ _ _ => Y.move rfl) ?_
     refine tw 7 rfl .refl hQ (gi 63 c173) (fun _ _ _ => Y.idxS rfl z177 rfl slc46 g174) ?_
     refine tw 8 rfl .refl hQ (gi 63 c173) (fun _ _ _ => Y.fieldAddr _ rfl fld45_1 rfl) ?_
     refine tw 9 rfl .refl hQ (gi 63 c173) (fun S₀ X₀ e₀ => Y.loadS [sL ((getI x20 (0 : Int)).bits)] rfl (At.part (q178.up e₀) 1 1 _ rfl rfl) row23 (by kernel_rfl)) ?_
     refine tw 10 rfl .refl hQ (gi 63 c173) (fun _ _ _ => Y.eqA rfl rfl eqt23 (by decide) (EqV.lab _ _ Tryz.underlying23 one5 Tryz.underlying5)) ?_
     refine tn 11 rfl hQ (fun _ _ _ => Y.pickT _ c173 rfl rfl) ?_
     refine dn ?_
     refine GX.keep [71, 11, 56, 55, 54, 6, 5, 4] rfl ?_
     exact hK171 _ _ _ ⟨l0, rfl, rfl⟩
    replace h := ite_f c173 h
    obtain rfl := Option.some.inj h
    refine G.drawN 12 mixed (by kernel_rfl) ?_
    refine tn 0 rfl hQ (fun _ _ _ => Y.move rfl) ?_
    refine tn 1 rfl hQ (fun S₀ X₀ e₀ => Y.lenS rfl (q22.up e₀) slc46) ?_
    refine tn 2 rfl hQ (fun _ _ _ => Y.eqI rfl rfl) ?_
    refine tn 3 rfl hQ (fun _ _ _ => Y.move rfl) ?_
    refine tf 4 rfl .refl hQ (gn 63 c173) ?_
    refine tf 5 rfl .refl hQ (gn 63 c173) ?_
    refine tf 6 rfl .refl hQ (gn 63 c173) ?_
    refine tf 7 rfl .refl hQ (gn 63 c173) ?_
    refine tf 8 rfl .refl hQ (gn 63 c173) ?_
    refine tf 9 rfl .refl hQ (gn 63 c173) ?_
    refine tf 10 rfl .refl hQ (gn 63 c173) ?_
    refine tn 11 rfl hQ (fun _ _ _ => Y.pickF _ c173 rfl rfl) ?_
    refine dn ?_
    refine GX.keep [71, 11, 56, 55, 54, 6, 5, 4] rfl ?_
    exact hK171 _ _ _ ⟨l0, rfl, rfl⟩
   rintro _ S179 _ ⟨e180, rfl, rfl⟩
   replace qa0 := qa0.up e180
   replace q22 := q22.up e180
   replace q25 := q25.up e180
   refine GX.then hK170 ?_
   refine G.cond _ rfl (fun c181 => ?_) (fun c181 => ?_)
   ·replace h := ite_t c181 h
    refine sr (fun _ hK182 => ?_)
    refine vl (Y.fieldAddr 0 rfl fld48_0 rfl) ?_
    refine so 1 0 1 [sV (.int .i64 (1 : Int)), sL x152, sL x153, sV (.int .i64 x154), sV (.int .i64 0), sL zL, sL zL, sV (.int .i64 0), sV (.int .i64 0), sL zL, sL zL, sV (.int .i64 0), sV v24] (r := [sV (.int .i64 (1 : Int))]) rfl (oI oN) size3 ?_
    refine nt hK182 ?_
    refine G.region ?_
    refine lb 0 0 3 [sL ((getI a0 x150).label), sL ((getI a0 x150).value), sV (.int .i64 ((getI a0 x150).at_))] row41 ?_
    refine vl (Y.fieldAddr 1 rfl fld48_1 rfl) ?_
    refine so 1 1 3 [sV (.int .i64 (1 : Int)), sL ((getI a0 x150).label), sL ((getI a0 x150).value), sV (.int .i64 ((getI a0 x150).at_)), sV (.int .i64 0), sL zL, sL zL, sV (.int .i64 0), sV (.int .i64 0), sL zL, sL zL, sV (.int .i64 0), sV v24] (r := [sL ((getI a0 x150).label), sL ((getI a0 x150).value), sV (.int .i64 ((getI a0 x150).at_))]) (aggV_cells _) (oL (oL (oI oN))) size41 ?_
    refine GO.nil ?_
    refine GX.normal_block ?_
    refine GX.then hK161 ?_
    refine G.region ?_
    refine vl (Y.addI rfl rfl) ?_
    refine mv ?_
    refine GO.nil ?_
    obtain rfl := Option.some.inj h
    refine GX.keep [56, 55, 54, 6, 5, 4] rfl ?_
    refine GX.less 1 rfl ?_
    exact hK2 _ _ _ _ rfl ⟨(l2 e149 e180), rfl, rfl⟩
   replace h := ite_f c181 h
   refine G.skip ?_
   refine GX.normal_block ?_
   refine GX.then hK161 ?_
   refine G.region ?_
   refine vl (Y.addI rfl rfl) ?_
   refine mv ?_
   refine GO.nil ?_
   obtain rfl := Option.some.inj h
   refine GX.keep [56, 55, 54, 6, 5, 4] rfl ?_
   refine GX.less 1 rfl ?_
   exact hK2 _ _ _ _ rfl ⟨(l2 e149 e180), rfl, rfl⟩
  replace h := ite_f c160 h
  refine G.exit ?_
  refine GX.exit_then ?_
  obtain rfl := Option.some.inj h
  refine GX.keep [6, 4] rfl ?_
  exact hx155 _ _ _ ⟨_, _, _, _, _, e149, (hf2 _ rfl).symm, rfl, rfl⟩
 ·exact ⟨Hp.le_refl _, v8, (.slice none 0 0), q13, (Sls.nil (α := Item) _), rfl, rfl⟩
 rintro ⟨x20, x23⟩ _ S18 _ ⟨e19, v21, v24, q22, q25, rfl, rfl⟩ out1 h hf1 K1 hK1 hx26
 rw [r18_Make_s1] at h
 replace qa0 := qa0.up e19
 refine G.seq (fun _ hK29 => ?_)
 refine sr (fun _ hK30 => ?_)
 refine mv ?_
 refine vl (Y.lenS rfl q22 slc46) ?_
 refine vl (Y.gtI rfl rfl) ?_
 refine nt hK30 ?_
 refine G.cond _ rfl (fun c31 => ?_) (fun c31 => ?_)
 ·replace h := ite_t c31 h
  refine sk hK29 ?_
  refine G.block ?_
  refine sr (fun _ hK32 => ?_)
  refine mv ?_
  obtain ⟨t33, wt33, h⟩ := bind_some' h
  refine st (cl fb154 (r16_Join_ok k x20 q22 wt33) (fun v34 S35 e36 z37 => ?_))
  replace q22 := q22.up e36
  replace qa0 := qa0.up e36
  replace q25 := q25.up e36
  obtain rfl := z37
  refine st (OS.alloc _ (by decide) zero45 (fun ad38 => ?_))
  refine sf 0 4 [sV (.int .i64 t33.len), sL t33.bits, sL t33.sum, sV (.int .i64 t33.at_)] (aggV_cells _) (oI (oL (oL (oI oN)))) size45 ?_
  refine nt hK32 ?_
  refine sr (fun _ hK40 => ?_)
  refine mv ?_
  refine vl (Y.fieldAddr 0 rfl fld45_0 rfl) ?_
  refine lv 0 0 one3 ?_
  obtain ⟨t41, wt41, h⟩ := bind_some' h
  refine st (cl fb185 (r18_sides_ok x20 t33.len q22 wt41) (fun v42 S43 e44 z45 => ?_))
  replace q22 := q22.up e44
  replace qa0 := qa0.up e44
  replace q25 := q25.up e44
  obtain ⟨v46, v48, rfl, q47, q49⟩ := z45
  refine mv ?_
  refine vl (Y.extract _ rfl rfl) ?_
  refine vl (Y.extract _ rfl rfl) ?_
  refine an ?_
  refine an ?_
  refine nt hK40 ?_
  refine G.seq (fun _ hK50 => ?_)
  refine sr (fun _ hK51 => ?_)
  refine lb 0 0 4 [sV (.int .i64 t33.len), sL t33.bits, sL t33.sum, sV (.int .i64 t33.at_)] row45 ?_
  refine lb 3 0 1 [sL a1] row23 ?_
  obtain ⟨t52, wt52, h⟩ := bind_some' h
  refine st (cl fb61 (r18_has_ok t33 a1 wt52) (fun v53 S54 e55 z56 => ?_))
  replace q22 := q22.up e55
  replace qa0 := qa0.up e55
  replace q47 := q47.up e55
  replace q49 := q49.up e55
  replace q25 := q25.up e55
  obtain rfl := z56
  refine vl (Y.not rfl) ?_
  refine nt hK51 ?_
  refine G.cond _ rfl (fun c57 => ?_) (fun c57 => ?_)
  ·replace h := ite_t c57 h
   refine sr (fun _ hK58 => ?_)
   refine vl (Y.fieldAddr 0 rfl fld48_0 rfl) ?_
   refine so 1 0 1 [sV (.int .i64 (2 : Int)), sL zL, sL zL, sV (.int .i64 0), sV (.int .i64 0), sL zL, sL zL, sV (.int .i64 0), sV (.int .i64 0), sL zL, sL zL, sV (.int .i64 0), sV v24] (r := [sV (.int .i64 (2 : Int))]) rfl (oI oN) size3 ?_
   refine nt hK58 ?_
   refine sr (fun _ hK59 => ?_)
   refine mv ?_
   obtain ⟨t60, wt60, h⟩ := bind_some' h
   refine st (cl fb154 (r16_Join_ok k t41.1 q47 wt60) (fun v61 S62 e63 z64 => ?_))
   replace q22 := q22.up e63
   replace qa0 := qa0.up e63
   replace q47 := q47.up e63
   replace q49 := q49.up e63
   replace q25 := q25.up e63
   obtain rfl := z64
   refine vl (Y.fieldAddr 66 rfl fld48_2 rfl) ?_
   refine so 1 4 4 [sV (.int .i64 (2 : Int)), sL zL, sL zL, sV (.int .i64 0), sV (.int .i64 t60.len), sL t60.bits, sL t60.sum, sV (.int .i64 t60.at_), sV (.int .i64 0), sL zL, sL zL, sV (.int .i64 0), sV v24] (r := [sV (.int .i64 t60.len), sL t60.bits, sL t60.sum, sV (.int .i64 t60.at_)]) (aggV_cells _) (oI (oL (oL (oI oN)))) size45 ?_
   refine nt hK59 ?_
   refine sr (fun _ hK65 => ?_)
   refine mv ?_
   obtain ⟨t66, wt66, h⟩ := bind_some' h
   refine st (cl fb154 (r16_Join_ok k t41.2 q49 wt66) (fun v67 S68 e69 z70 => ?_))
   replace q22 := q22.up e69
   replace qa0 := qa0.up e69
   replace q47 := q47.up e69
   replace q49 := q49.up e69
   replace q25 := q25.up e69
   obtain rfl := z70
   refine vl (Y.fieldAddr 132 rfl fld48_3 rfl) ?_
   refine so 1 8 4 [sV (.int .i64 (2 : Int)), sL zL, sL zL, sV (.int .i64 0), sV (.int .i64 t60.len), sL t60.bits, sL t60.sum, sV (.int .i64 t60.at_), sV (.int .i64 t66.len), sL t66.bits, sL t66.sum, sV (.int .i64 t66.at_), sV v24] (r := [sV (.int .i64 t66.len), sL t66.bits, sL t66.sum, sV (.int .i64 t66.at_)]) (aggV_cells _) (oI (oL (oL (oI oN)))) size45 ?_
   refine nt hK65 ?_
   refine sr (fun _ hK71 => ?_)
   refine lb 1 0 13 [sV (.int .i64 (2 : Int)), sL zL, sL zL, sV (.int .i64 0), sV (.int .i64 t60.len), sL t60.bits, sL t60.sum, sV (.int .i64 t60.at_), sV (.int .i64 t66.len), sL t66.bits, sL t66.sum, sV (.int .i64 t66.at_), sV v24] row48 ?_
   refine sf 2 13 [sV (.int .i64 (2 : Int)), sL zL, sL zL, sV (.int .i64 0), sV (.int .i64 t60.len), sL t60.bits, sL t60.sum, sV (.int .i64 t60.at_), sV (.int .i64 t66.len), sL t66.bits, sL t66.sum, sV (.int .i64 t66.at_), sV v24] (aggV_cells _) (oI (oL (oL (oI (oI (oL (oL (oI (oI (oL (oL (oI (oV (q25.one) oN))))))))))))) size48 ?_
   refine nt hK71 ?_
   refine G.ret ?_
   obtain rfl := Option.some.inj h
   obtain rfl := hf1 _ rfl
   have h := ho28
   try dsimp only at h
   obtain rfl := Option.some.inj h
   exact hret _ _ _ _ 4 (l2 e10 (l2 e19 (l2 e36 (l2 e44 (l2 e55 (l2 e63 e69)))))) (.cons (.row (k := 2) rfl rfl row48 (by kernel_rfl)) .nil) ⟨_, rfl, q25⟩ rfl
  replace h := ite_f c57 h
  refine sk hK50 ?_
  refine G.seq (fun _ hK72 => ?_)
  refine sr (fun _ hK73 => ?_)
  refine lb 3 0 1 [sL a1] row23 ?_
  refine vl (Y.fieldAddr 0 rfl fld45_0 rfl) ?_
  refine lv 0 0 one3 ?_
  obtain ⟨t74, wt74, h⟩ := bind_some' h
  refine st (cl fb63 (r01_Bit_ok a1 t33.len wt74) (fun v75 S76 e77 z78 => ?_))
  replace q22 := q22.up e77
  replace qa0 := qa0.up e77
  replace q47 := q47.up e77
  replace q49 := q49.up e77
  replace q25 := q25.up e77
  obtain rfl := z78
  refine vl (Y.eqI rfl rfl) ?_
  refine nt hK73 ?_
  refine G.cond _ rfl (fun c79 => ?_) (fun c79 => ?_)
  ·replace h := ite_t c79 h
   refine G.region ?_
   refine mv ?_
   refine mv ?_
   refine an ?_
   refine an ?_
   refine nt hK72 ?_
   refine G.seq (fun _ hK80 => ?_)
   obtain ⟨t81, wt81, h⟩ := bind_some' h
   obtain ⟨g93, h⟩ := req_bind h
   refine G.drawS 7 _ (Blk ad38 [sV (.int .i64 t33.len), sL t33.bits, sL t33.sum, sV (.int .i64 t33.at_)] :: (fun _ => True) :: Blk ad4 [sV (.int .i64 0), sL zL, sL zL, sV (.int .i64 0), sV (.int .i64 0), sL zL, sL zL, sV (.int .i64 0), sV (.int .i64 0), sL zL, sL zL, sV (.int .i64 0), sV (.slice none 0 0)] :: Blk ad2 [sL a1] :: F) mixed .refl (by kernel_rfl) ?_
   refine tx 0 rfl (.same (.lose .refl)) hQ (fun _ _ _ => Y.move rfl) ?_
   refine tx 3 rfl (.same (.lose .refl)) hQ (fun _ _ _ => Y.fieldAddr 198 rfl fld48_4 rfl) ?_
   refine tk 4 [4, 7] rfl hQ Gd.none (fun S₀ X₀ e₀ => Y.loadV (X₀.length + 1)  12 _ rfl (Lk rfl) rfl rfl one46) ?_
   refine g1 1 ?_
   refine n1 rfl (cl fb154 (r16_Join_ok k t41.1 q47 wt81) (fun v96 S97 e98 z99 => ⟨⟨[], .refl, e98⟩, ?_⟩))
   have q100 := q22.up e98
   have q101 := qa0.up e98
   have q102 := q47.up e98
   have q103 := q49.up e98
   have q104 := q25.up e98
   obtain rfl := z99
   refine g1 2 ?_
   refine n1 rfl (OS.buildSliceE ([t81] : List Item) (by decide) el46 rfl (Nat.le_of_ble_eq_true rfl) rfl ⟨rfl, rfl⟩ (fun v105 => ⟨⟨[_], (.same .refl), e98⟩, ?_⟩))
   refine g1 5 ?_
   refine n1 rfl (OS.append (xs := ([t81] : List Item)) (ys := x23) 0 (by decide) rfl rfl rfl q104.src el46 src46 g93 (fun v107 => ⟨⟨[_], (.same .refl), e98⟩, ?_⟩))
   refine tx 6 rfl (.same (.lose .refl)) hQ (fun _ _ _ => Y.fieldAddr 198 rfl fld48_4 rfl) ?_
   refine GDr.rowOne 0 rfl (fun z108 => ?_)
   refine g1 7 ?_
   refine n2 rfl (OS.store 2 12 1 [sV (.int .i64 0), sL zL, sL zL, sV (.int .i64 0), sV (.int .i64 0), sL zL, sL zL, sV (.int .i64 0), sV (.int .i64 0), sL zL, sL zL, sV (.int .i64 0), sV v107] (r := [sV v107]) rfl rfl (cells_one z108) (oV (z108) oN) rfl rfl size46 (by kernel_rfl) (by kernel_rfl) (by kernel_rfl) ⟨⟨[_], (.same (.same (.lose .refl))), e98⟩, ?_⟩)
   refine dn ?_
   refine GX.then hK80 ?_
   refine G.region ?_
   refine mv ?_
   refine an ?_
   refine GO.nil ?_
   refine GX.normal_block ?_
   obtain rfl := Option.some.inj h
   refine GX.shareR 0 rfl (fun S109 e110 q111 => ?_)
   replace q103 := q103.up e110
   replace q101 := q101.up e110
   replace q100 := q100.up e110
   replace q102 := q102.up e110
   replace q104 := q104.up e110
   refine GX.keep [6, 5, 4, 3, 0] rfl ?_
   refine GX.less 2 rfl ?_
   exact hK1 _ _ _ _ rfl ⟨(l2 e19 (l2 e36 (l2 e44 (l2 e55 (l2 e77 (l2 e98 e110)))))), v48, v107, q103, q111, rfl, rfl⟩
  replace h := ite_f c79 h
  refine sk hK72 ?_
  refine G.seq (fun _ hK112 => ?_)
  obtain ⟨t113, wt113, h⟩ := bind_some' h
  obtain ⟨g125, h⟩ := req_bind h
  refine G.drawS 7 _ (Blk ad38 [sV (.int .i64 t33.len), sL t33.bits, sL t33.sum, sV (.int .i64 t33.at_)] :: (fun _ => True) :: Blk ad4 [sV (.int .i64 0), sL zL, sL zL, sV (.int .i64 0), sV (.int .i64 0), sL zL, sL zL, sV (.int .i64 0), sV (.int .i64 0), sL zL, sL zL, sV (.int .i64 0), sV (.slice none 0 0)] :: Blk ad2 [sL a1] :: F) mixed .refl (by kernel_rfl) ?_
  refine tx 0 rfl (.same (.lose .refl)) hQ (fun _ _ _ => Y.move rfl) ?_
  refine tx 3 rfl (.same (.lose .refl)) hQ (fun _ _ _ => Y.fieldAddr 198 rfl fld48_4 rfl) ?_
  refine tk 4 [4, 7] rfl hQ Gd.none (fun S₀ X₀ e₀ => Y.loadV (X₀.length + 1)  12 _ rfl (Lk rfl) rfl rfl one46) ?_
  refine g1 1 ?_
  refine n1 rfl (cl fb154 (r16_Join_ok k t41.2 q49 wt113) (fun v128 S129 e130 z131 => ⟨⟨[], .refl, e130⟩, ?_⟩))
  have q132 := q22.up e130
  have q133 := qa0.up e130
  have q134 := q47.up e130
  have q135 := q49.up e130
  have q136 := q25.up e130
  obtain rfl := z131
  refine g1 2 ?_
  refine n1 rfl (OS.buildSliceE ([t113] : List Item) (by decide) el46 rfl (Nat.le_of_ble_eq_true rfl) rfl ⟨rfl, rfl⟩ (fun v137 => ⟨⟨[_], (.same .refl), e130⟩, ?_⟩))
  refine g1 5 ?_
  refine n1 rfl (OS.append (xs := ([t113] : List Item)) (ys := x23) 0 (by decide) rfl rfl rfl q136.src el46 src46 g125 (fun v139 => ⟨⟨[_], (.same .refl), e130⟩, ?_⟩))
  refine tx 6 rfl (.same (.lose .refl)) hQ (fun _ _ _ => Y.fieldAddr 198 rfl fld48_4 rfl) ?_
  refine GDr.rowOne 0 rfl (fun z140 => ?_)
  refine g1 7 ?_
  refine n2 rfl (OS.store 2 12 1 [sV (.int .i64 0), sL zL, sL zL, sV (.int .i64 0), sV (.int .i64 0), sL zL, sL zL, sV (.int .i64 0), sV (.int .i64 0), sL zL, sL zL, sV (.int .i64 0), sV v139] (r := [sV v139]) rfl rfl (cells_one z140) (oV (z140) oN) rfl rfl size46 (by kernel_rfl) (by kernel_rfl) (by kernel_rfl) ⟨⟨[_], (.same (.same (.lose .refl))), e130⟩, ?_⟩)
  refine dn ?_
  refine GX.then hK112 ?_
  refine G.region ?_
  refine mv ?_
  refine an ?_
  refine GO.nil ?_
  refine GX.normal_block ?_
  obtain rfl := Option.some.inj h
  refine GX.shareR 0 rfl (fun S141 e142 q143 => ?_)
  replace q134 := q134.up e142
  replace q133 := q133.up e142
  replace q132 := q132.up e142
  replace q135 := q135.up e142
  replace q136 := q136.up e142
  refine GX.keep [6, 5, 4, 3, 0] rfl ?_
  refine GX.less 2 rfl ?_
  exact hK1 _ _ _ _ rfl ⟨(l2 e19 (l2 e36 (l2 e44 (l2 e55 (l2 e77 (l2 e130 e142)))))), v46, v139, q134, q143, rfl, rfl⟩
 replace h := ite_f c31 h
 refine G.exit ?_
 refine GX.exit_then ?_
 obtain rfl := Option.some.inj h
 refine GX.keep [6, 5, 4, 0] rfl ?_
 exact hx26 _ _ _ ⟨_, _, _, _, e19, (hf1 _ rfl).symm, q22, q25, rfl, rfl⟩

/- chirograph/chirographref18.Way -/
def r18_Way_s1 (t13 : (List Str) × (List Item) × Int) : (Int × (List Str)) → Option ((Int × (List Str)) ⊕ (Int × (List Str)))
 | (x48, x49) => (if (decide ((0 : Int) ≤ x48)) = true then ((req ((0 : Int) ≤ x48 ∧ x48 < lenI t13.1)).bind fun _ => ((req (List.length x49 + List.length ([(getI t13.1 x48)] : List Str) ≤ LIM)).bind fun _ => some (.inl ((wrap64 (x48 - (1 : Int))), (x49 ++ ([(getI t13.1 x48)] : List Str)))))) else some (.inr (x48, x49)))

def r18_Way (k : Nat) (a0 : (List Leaf)) (a1 : Lab) : Option (List Str) :=
 ((r18_Make k a0 a1).bind fun t5 => ((r18_Nodes t5 a1).bind fun t13 => ((iter (r18_Way_s1 t13) ((wrap64 ((lenI t13.1) - (1 : Int))), ([] : List Str))).bind fun b52 => (match b52 with | (x48, x49) => (if ((lenI x49) == (0 : Int)) = true then some ([([18] : Str)] : List Str) else some x49)))))

theorem r18_Way_ok {S : Hp} (k : Nat) (a0 : (List Leaf)) (a1 : Lab) {va0 : Value} (qa0 : Sls S va0 a0) {r : (List Str)} (h : r18_Way k a0 a1 = some r) : Fn Tryz.prog 51 [va0, aggV [sL a1]] S (fun v S' => Sls S' v r) := by
 unfold r18_Way at h
 refine fo [.tmp 4] 39 Tryz.func51 Tryz.ntmps51 (fun o F Q hQ hN hret => ?_)
 refine sr (fun _ hK1 => ?_)
 refine st (OS.boxA (by decide) rfl (fun ad2 => ?_))
 refine an ?_
 refine nt hK1 ?_
 refine G.seq (fun _ hK4 => ?_)
 obtain ⟨t5, wt5, h⟩ := bind_some' h
 obtain ⟨t13, wt13, h⟩ := bind_some' h
 refine G.drawN 12 mixed (by kernel_rfl) ?_
 refine tn 0 rfl hQ (fun _ _ _ => Y.move rfl) ?_
 refine tn 1 rfl hQ (fun S₀ X₀ e₀ => Y.loadB (X₀.length + 0)  0 1 [sL a1] rfl (Lk rfl) rfl rfl row23 (by kernel_rfl)) ?_
 refine tn 3 rfl hQ (fun S₀ X₀ e₀ => Y.loadB (X₀.length + 0)  0 1 [sL a1] rfl (Lk rfl) rfl rfl row23 (by kernel_rfl)) ?_
 refine g1 2 ?_
 refine n1 rfl (cl fb131 (r18_Make_ok k a0 a1 qa0 wt5) (fun v24 S25 e26 z27 => ⟨⟨[], .refl, e26⟩, ?_⟩))
 have q28 := qa0.up e26
 obtain ⟨v29, rfl, q30⟩ := z27
 refine g1 4 ?_
 refine n1 rfl (cl fb15 (r18_Nodes_ok t5 a1 q30 wt13) (fun v31 S32 e33 z34 => ⟨⟨[], .refl, (l2 e26 e33)⟩, ?_⟩))
 have q35 := q28.up e33
 have q36 := q30.up e33
 obtain ⟨v37, v39, rfl, q38, q40⟩ := z34
 refine tn 5 rfl hQ (fun _ _ _ => Y.move rfl) ?_
 refine tn 6 rfl hQ (fun _ _ _ => Y.extract _ rfl rfl) ?_
 refine tn 7 rfl hQ (fun _ _ _ => Y.extract _ rfl rfl) ?_
 refine tn 8 rfl hQ (fun _ _ _ => Y.extract _ rfl rfl) ?_
 refine tn 9 rfl hQ (fun _ _ _ => Y.assign rfl) ?_
 refine tn 10 rfl hQ (fun _ _ _ => Y.assign rfl) ?_
 refine tn 11 rfl hQ (fun _ _ _ => Y.assign rfl) ?_
 refine dn ?_
 refine GX.then hK4 ?_
 refine sr (fun _ hK41 => ?_)
 refine bs ([] : List Str) el58 (fun v42 => ?_)
 refine an ?_
 refine nt hK41 ?_
 refine G.seq (fun _ hK44 => ?_)
 refine sr (fun _ hK45 => ?_)
 refine mv ?_
 refine vl (Y.lenS rfl q38 slc58) ?_
 refine vl (Y.subI rfl rfl) ?_
 refine an ?_
 refine nt hK45 ?_
 refine G.block ?_
 obtain ⟨b52, wb52, ho53⟩ := bind_some' h
 refine G.keep [9, 8, 5] rfl ?_
 refine G.loopK (r18_Way_s1 t13) (fun s₀ E' S' L' => match s₀ with | (x48, x49) => S32.le S' ∧ ∃ (v50 : Value), E' = [(9, .int .i64 x48), (8, v50), (5, v37)] ∧ Rw v50 x49 :: Blk ad2 [sL a1] :: F = L') b52 0 (fun E₀ S₀ L₀ => ∃ (x48 : Int) (x49 : (List Str)) (v50 : Value), S32.le S₀ ∧ b52 = (x48, x49) ∧ E₀ = [(8, v50)] ∧ Rw v50 x49 :: Blk ad2 [sL a1] :: F = L₀) wb52 ?_ ?_ ?_
 ·rintro _ S67 _ ⟨x48, x49, v50, e68, rfl, rfl, rfl⟩
  have h := ho53; clear ho53
  try dsimp only at h
  refine GX.exit_block ?_
  refine GX.then hK44 ?_
  refine G.seq (fun _ hK69 => ?_)
  refine sr (fun _ hK70 => ?_)
  refine mv ?_
  refine vl (Y.lenR 0  rfl rfl slc58) ?_
  refine vl (Y.eqI rfl rfl) ?_
  refine nt hK70 ?_
  refine G.cond _ rfl (fun c71 => ?_) (fun c71 => ?_)
  ·replace h := ite_t c71 h
   refine sr (fun _ hK72 => ?_)
   refine bs ([([18] : Str)] : List Str) el58 (fun v73 => ?_)
   refine an ?_
   refine nt hK72 ?_
   refine G.ret ?_
   refine GX.shareR 0 rfl (fun S75 e76 q77 => ?_)
   obtain rfl := Option.some.inj h
   exact hret _ _ _ _ 3 (l2 e26 (l2 e33 (l2 e68 e76))) (.cons (.tmp rfl) .nil) q77 rfl
  replace h := ite_f c71 h
  refine sk hK69 ?_
  refine sr (fun _ hK78 => ?_)
  refine mv ?_
  refine an ?_
  refine nt hK78 ?_
  refine G.ret ?_
  refine GX.shareR 0 rfl (fun S79 e80 q81 => ?_)
  obtain rfl := Option.some.inj h
  exact hret _ _ _ _ 2 (l2 e26 (l2 e33 (l2 e68 e80))) (.cons (.tmp rfl) .nil) q81 rfl
 ·exact ⟨Hp.le_refl _, v42, rfl, rfl⟩
 rintro ⟨x48, x49⟩ _ S46 _ ⟨e47, v50, rfl, rfl⟩ out1 h hf1 K1 hK1 hx51
 rw [r18_Way_s1] at h
 replace q38 := q38.up e47
 refine G.seq (fun _ hK54 => ?_)
 refine sr (fun _ hK55 => ?_)
 refine mv ?_
 refine vl (Y.geI rfl rfl) ?_
 refine nt hK55 ?_
 refine G.cond _ rfl (fun c56 => ?_) (fun c56 => ?_)
 ·replace h := ite_t c56 h
  refine sk hK54 ?_
  refine G.seq (fun _ hK57 => ?_)
  refine G.block ?_
  refine G.region ?_
  refine mv ?_
  refine mv ?_
  refine mv ?_
  obtain ⟨g58, h⟩ := req_bind h
  obtain ⟨ad59, p60, z61, q62⟩ := Sls.at q38 g58
  refine vl (Y.idxS rfl z61 rfl slc58 g58) ?_
  refine vl (Y.loadSV _ rfl (At.val (At.part q62 0 1 [sV (strV (getI t13.1 x48))] rfl rfl)) one9) ?_
  refine bs ([(getI t13.1 x48)] : List Str) el58 (fun v63 => ?_)
  obtain ⟨g65, h⟩ := req_bind h
  refine st (OS.append (xs := x49) (ys := ([(getI t13.1 x48)] : List Str)) 1 (by decide) rfl rfl rfl (Rw.src (k := 0) rfl) el58 src58 g65 (fun v66 => ?_))
  refine an ?_
  refine GO.nil ?_
  refine GX.normal_block ?_
  refine GX.then hK57 ?_
  refine G.region ?_
  refine mv ?_
  refine vl (Y.subI rfl rfl) ?_
  refine an ?_
  refine GO.nil ?_
  obtain rfl := Option.some.inj h
  refine GX.keep [9, 8, 5] rfl ?_
  refine GX.less 1 rfl ?_
  exact hK1 _ _ _ _ rfl ⟨e47, v66, rfl, rfl⟩
 replace h := ite_f c56 h
 refine G.exit ?_
 refine GX.exit_then ?_
 obtain rfl := Option.some.inj h
 refine GX.keep [8] rfl ?_
 exact hx51 _ _ _ ⟨_, _, _, e47, (hf1 _ rfl).symm, rfl, rfl⟩

end
end Go.Ch
end
section
/- Functions of the program: what each comes to, proved. -/
set_option linter.unusedVariables false
set_option linter.unusedSimpArgs false
set_option maxRecDepth 100000
set_option maxHeartbeats 4000000
namespace Go.Ch
open Go.RowKit (wrap64)
open Go.Proofs
noncomputable section
/- chirograph/patch.Check -/
def patch_Check_s1 (a0 : (List Item)) : (Int) → Option ((Int) ⊕ (Int ⊕ (Int)))
 | x10 => (if (decide (x10 < (lenI a0))) = true then ((req ((0 : Int) ≤ x10 ∧ x10 < lenI a0)).bind fun _ => ((node_Good (getI a0 x10)).bind fun t28 => (if (!t28) = true then some (.inr (.inl (1 : Int))) else (if (x10 == (0 : Int)) = true then some (.inl (wrap64 (x10 + (1 : Int)))) else ((req ((0 : Int) ≤ (wrap64 (x10 - (1 : Int))) ∧ (wrap64 (x10 - (1 : Int))) < lenI a0)).bind fun _ => ((bits_Prefix_Over (⟨(getI a0 (wrap64 (x10 - (1 : Int)))).len, (getI a0 (wrap64 (x10 - (1 : Int)))).bits⟩ : Pfx) (⟨(getI a0 x10).len, (getI a0 x10).bits⟩ : Pfx)).bind fun t48 => (if t48 = true then (if t48 = true then some (.inr (.inl (3 : Int))) else some (.inl (wrap64 (x10 + (1 : Int))))) else ((bits_Prefix_Over (⟨(getI a0 x10).len, (getI a0 x10).bits⟩ : Pfx) (⟨(getI a0 (wrap64 (x10 - (1 : Int)))).len, (getI a0 (wrap64 (x10 - (1 : Int)))).bits⟩ : Pfx)).bind fun t57 => (if t57 = true then (if t57 = true then some (.inr (.inl (3 : Int))) else some (.inl (wrap64 (x10 + (1 : Int))))) else ((bits_Order ((getI a0 (wrap64 (x10 - (1 : Int)))).bits) ((getI a0 x10).bits)).bind fun t65 => (if (decide ((0 : Int) ≤ t65)) = true then some (.inr (.inl (3 : Int))) else some (.inl (wrap64 (x10 + (1 : Int))))))))))))))) else some (.inr (.inr x10)))

def patch_Check  (a0 : (List Item)) : Option Int :=
 (if (decide ((2000 : Int) < (lenI a0))) = true then some (2 : Int) else ((iter (patch_Check_s1 a0) (0 : Int)).bind fun b12 => (match b12 with | .inl r₀ => some r₀ | .inr x10 => some (0 : Int))))

theorem patch_Check_ok {S : Hp} (a0 : (List Item)) {va0 : Value} (qa0 : Sls S va0 a0) {r : Int} (h : patch_Check a0 = some r) : Fn Tryz.prog 43 [va0] S (fun v S' => v = .int .i64 r) := by
 unfold patch_Check at h
 refine fo [.tmp 2] 44 Tryz.func43 Tryz.ntmps43 (fun o F Q hQ hN hret => ?_)
 refine sr (fun _ hK1 => ?_)
 refine an ?_
 refine nt hK1 ?_
 refine G.seq (fun _ hK2 => ?_)
 refine sr (fun _ hK3 => ?_)
 refine mv ?_
 refine vl (Y.lenS rfl qa0 slc32) ?_
 refine vl (Y.gtI rfl rfl) ?_
 refine nt hK3 ?_
 refine G.cond _ rfl (fun c4 => ?_) (fun c4 => ?_)
 ·replace h := ite_t c4 h
  refine sr (fun _ hK5 => ?_)
  refine an ?_
  refine nt hK5 ?_
  refine G.ret ?_
  obtain rfl := Option.some.inj h
  exact hret _ _ _ _ 0 l0 (.cons (.tmp rfl) .nil) rfl rfl
 replace h := ite_f c4 h
 refine sk hK2 ?_
 refine G.seq (fun _ hK6 => ?_)
 refine sr (fun _ hK7 => ?_)
 refine mv ?_
 refine vl (Y.lenS rfl qa0 slc32) ?_
 refine mv ?_
 refine nt hK7 ?_
 refine G.block ?_
 obtain ⟨b12, wb12, ho13⟩ := bind_some' h
 refine G.keep [11, 10, 9, 0] rfl ?_
 refine G.loopK (patch_Check_s1 a0) (fun s₀ E' S' L' => match s₀ with | x10 => S.le S' ∧ E' = [(11, .int .i64 x10), (10, .int .i64 (lenI a0)), (9, va0), (0, va0)] ∧ F = L') b12 0 (fun E₀ S₀ L₀ => ∃ (x10 : Int), S.le S₀ ∧ b12 = .inr x10 ∧ E₀ = [] ∧ F = L₀) wb12 ?_ ?_ ?_
 ·rintro _ S72 _ ⟨x10, e73, rfl, rfl, rfl⟩
  have h := ho13; clear ho13
  try dsimp only at h
  refine GX.exit_block ?_
  refine GX.then hK6 ?_
  refine sr (fun _ hK74 => ?_)
  refine an ?_
  refine nt hK74 ?_
  refine G.ret ?_
  obtain rfl := Option.some.inj h
  exact hret _ _ _ _ 0 e73 (.cons (.tmp rfl) .nil) rfl rfl
 ·exact ⟨Hp.le_refl _, rfl, rfl⟩
 rintro x10 _ S8 _ ⟨e9, rfl, rfl⟩ out1 h hf1 K1 hK1 hx11
 rw [patch_Check_s1] at h
 replace qa0 := qa0.up e9
 refine sr (fun _ hK14 => ?_)
 refine vl (Y.ltI rfl rfl) ?_
 refine nt hK14 ?_
 refine G.seq (fun _ hK15 => ?_)
 refine G.cond _ rfl (fun c16 => ?_) (fun c16 => ?_)
 ·replace h := ite_t c16 h
  refine sk hK15 ?_
  refine G.seq (fun _ hK17 => ?_)
  refine G.block ?_
  refine sr (fun _ hK18 => ?_)
  refine mv ?_
  obtain ⟨g19, h⟩ := req_bind h
  obtain ⟨ad20, p21, z22, q23⟩ := Sls.at qa0 g19
  refine vl (Y.idxS rfl z22 rfl slc32 g19) ?_
  refine vl (Y.loadS [sV (.int .i64 ((getI a0 x10).len)), sL ((getI a0 x10).bits), sL ((getI a0 x10).sum), sV (.int .i64 ((getI a0 x10).at_))] rfl (At.part q23 0 4 _ rfl rfl) row29 (by kernel_rfl)) ?_
  refine st (OS.alloc _ (by decide) zero29 (fun ad24 => ?_))
  refine an ?_
  refine sf 0 4 [sV (.int .i64 ((getI a0 x10).len)), sL ((getI a0 x10).bits), sL ((getI a0 x10).sum), sV (.int .i64 ((getI a0 x10).at_))] (aggV_cells _) (oI (oL (oL (oI oN)))) size29 ?_
  refine nt hK18 ?_
  refine G.seq (fun _ hK26 => ?_)
  refine sr (fun _ hK27 => ?_)
  refine lb 0 0 4 [sV (.int .i64 ((getI a0 x10).len)), sL ((getI a0 x10).bits), sL ((getI a0 x10).sum), sV (.int .i64 ((getI a0 x10).at_))] row29 ?_
  obtain ⟨t28, wt28, h⟩ := bind_some' h
  refine st (cl fb94 (node_Good_ok (getI a0 x10) wt28) (fun v29 S30 e31 z32 => ?_))
  replace qa0 := qa0.up e31
  replace q23 := q23.up e31
  obtain rfl := z32
  refine vl (Y.not rfl) ?_
  refine nt hK27 ?_
  refine G.cond _ rfl (fun c33 => ?_) (fun c33 => ?_)
  ·replace h := ite_t c33 h
   refine sr (fun _ hK34 => ?_)
   refine an ?_
   refine nt hK34 ?_
   refine G.ret ?_
   obtain rfl := Option.some.inj h
   obtain rfl := hf1 _ rfl
   have h := ho13
   try dsimp only at h
   obtain rfl := Option.some.inj h
   exact hret _ _ _ _ 1 (l2 e9 e31) (.cons (.tmp rfl) .nil) rfl rfl
  replace h := ite_f c33 h
  refine sk hK26 ?_
  refine G.seq (fun _ hK35 => ?_)
  refine sr (fun _ hK36 => ?_)
  refine mv ?_
  refine vl (Y.eqI rfl rfl) ?_
  refine nt hK36 ?_
  refine G.cond _ rfl (fun c37 => ?_) (fun c37 => ?_)
  ·replace h := ite_t c37 h
   refine G.exit ?_
   refine GX.exit_then ?_
   refine GX.exit_block ?_
   refine GX.then hK17 ?_
   refine G.region ?_
   refine vl (Y.addI rfl rfl) ?_
   refine mv ?_
   refine GO.nil ?_
   obtain rfl := Option.some.inj h
   refine GX.keep [11, 10, 9, 0] rfl ?_
   refine GX.less 1 rfl ?_
   exact hK1 _ _ _ _ rfl ⟨(l2 e9 e31), rfl, rfl⟩
  replace h := ite_f c37 h
  refine sk hK35 ?_
  refine sr (fun _ hK38 => ?_)
  refine mv ?_
  refine mv ?_
  refine vl (Y.subI rfl rfl) ?_
  obtain ⟨g39, h⟩ := req_bind h
  obtain ⟨ad40, p41, z42, q43⟩ := Sls.at qa0 g39
  refine vl (Y.idxS rfl z42 rfl slc32 g39) ?_
  refine vl (Y.fieldAddr _ rfl fld29_0 rfl) ?_
  refine vl (Y.loadS [sV (.int .i64 ((getI a0 (wrap64 (x10 - (1 : Int)))).len)), sL ((getI a0 (wrap64 (x10 - (1 : Int)))).bits)] rfl (At.part q43 0 2 _ rfl rfl) row27 (by kernel_rfl)) ?_
  refine st (OS.alloc _ (by decide) zero27 (fun ad44 => ?_))
  refine sf 0 2 [sV (.int .i64 ((getI a0 (wrap64 (x10 - (1 : Int)))).len)), sL ((getI a0 (wrap64 (x10 - (1 : Int)))).bits)] (aggV_cells _) (oI (oL oN)) size27 ?_
  refine nt hK38 ?_
  refine G.block ?_
  refine G.seq (fun _ hK46 => ?_)
  refine sr (fun _ hK47 => ?_)
  refine lb 0 0 2 [sV (.int .i64 ((getI a0 (wrap64 (x10 - (1 : Int)))).len)), sL ((getI a0 (wrap64 (x10 - (1 : Int)))).bits)] row27 ?_
  refine vl (Y.fieldAddr 0 rfl fld29_0 rfl) ?_
  refine lb 1 0 2 [sV (.int .i64 ((getI a0 x10).len)), sL ((getI a0 x10).bits)] row27 ?_
  obtain ⟨t48, wt48, h⟩ := bind_some' h
  refine st (cl fb122 (bits_Prefix_Over_ok (⟨(getI a0 (wrap64 (x10 - (1 : Int)))).len, (getI a0 (wrap64 (x10 - (1 : Int)))).bits⟩ : Pfx) (⟨(getI a0 x10).len, (getI a0 x10).bits⟩ : Pfx) wt48) (fun v49 S50 e51 z52 => ?_))
  replace qa0 := qa0.up e51
  replace q23 := q23.up e51
  replace q43 := q43.up e51
  obtain rfl := z52
  refine an ?_
  refine nt hK47 ?_
  refine G.cond _ rfl (fun c53 => ?_) (fun c53 => ?_)
  ·replace h := ite_t c53 h
   refine sk hK46 ?_
   refine G.cond _ rfl (fun c54 => ?_) (fun c54 => ?_)
   ·replace h := ite_t c54 h
    refine sr (fun _ hK55 => ?_)
    refine an ?_
    refine nt hK55 ?_
    refine G.ret ?_
    obtain rfl := Option.some.inj h
    obtain rfl := hf1 _ rfl
    have h := ho13
    try dsimp only at h
    obtain rfl := Option.some.inj h
    exact hret _ _ _ _ 2 (l2 e9 (l2 e31 e51)) (.cons (.tmp rfl) .nil) rfl rfl
   replace h := ite_f c54 h
   refine G.skip ?_
   refine GX.normal_block ?_
   refine GX.normal_block ?_
   refine GX.then hK17 ?_
   refine G.region ?_
   refine vl (Y.addI rfl rfl) ?_
   refine mv ?_
   refine GO.nil ?_
   obtain rfl := Option.some.inj h
   refine GX.keep [11, 10, 9, 0] rfl ?_
   refine GX.less 2 rfl ?_
   exact hK1 _ _ _ _ rfl ⟨(l2 e9 (l2 e31 e51)), rfl, rfl⟩
  replace h := ite_f c53 h
  refine sr (fun _ hK56 => ?_)
  refine vl (Y.fieldAddr 0 rfl fld29_0 rfl) ?_
  refine lb 1 0 2 [sV (.int .i64 ((getI a0 x10).len)), sL ((getI a0 x10).bits)] row27 ?_
  refine lb 0 0 2 [sV (.int .i64 ((getI a0 (wrap64 (x10 - (1 : Int)))).len)), sL ((getI a0 (wrap64 (x10 - (1 : Int)))).bits)] row27 ?_
  obtain ⟨t57, wt57, h⟩ := bind_some' h
  refine st (cl fb122 (bits_Prefix_Over_ok (⟨(getI a0 x10).len, (getI a0 x10).bits⟩ : Pfx) (⟨(getI a0 (wrap64 (x10 - (1 : Int)))).len, (getI a0 (wrap64 (x10 - (1 : Int)))).bits⟩ : Pfx) wt57) (fun v58 S59 e60 z61 => ?_))
  replace qa0 := qa0.up e60
  replace q23 := q23.up e60
  replace q43 := q43.up e60
  obtain rfl := z61
  refine an ?_
  refine nt hK56 ?_
  refine G.cond _ rfl (fun c62 => ?_) (fun c62 => ?_)
  ·replace h := ite_t c62 h
   refine sk hK46 ?_
   refine G.cond _ rfl (fun c63 => ?_) (fun c63 => ?_)
   ·replace h := ite_t c63 h
    refine sr (fun _ hK64 => ?_)
    refine an ?_
    refine nt hK64 ?_
    refine G.ret ?_
    obtain rfl := Option.some.inj h
    obtain rfl := hf1 _ rfl
    have h := ho13
    try dsimp only at h
    obtain rfl := Option.some.inj h
    exact hret _ _ _ _ 2 (l2 e9 (l2 e31 (l2 e51 e60))) (.cons (.tmp rfl) .nil) rfl rfl
   replace h := ite_f c63 h
   refine G.skip ?_
   refine GX.normal_block ?_
   refine GX.normal_block ?_
   refine GX.then hK17 ?_
   refine G.region ?_
   refine vl (Y.addI rfl rfl) ?_
   refine mv ?_
   refine GO.nil ?_
   obtain rfl := Option.some.inj h
   refine GX.keep [11, 10, 9, 0] rfl ?_
   refine GX.less 2 rfl ?_
   exact hK1 _ _ _ _ rfl ⟨(l2 e9 (l2 e31 (l2 e51 e60))), rfl, rfl⟩
  replace h := ite_f c62 h
  refine G.region ?_
  refine vl (Y.fieldAddr 1 rfl fld27_1 rfl) ?_
  refine lb 0 1 1 [sL ((getI a0 (wrap64 (x10 - (1 : Int)))).bits)] row23 ?_
  refine vl (Y.fieldAddr 0 rfl fld29_0 rfl) ?_
  refine vl (Y.fieldAddr 1 rfl fld27_1 rfl) ?_
  refine lb 1 1 1 [sL ((getI a0 x10).bits)] row23 ?_
  obtain ⟨t65, wt65, h⟩ := bind_some' h
  refine st (cl fb121 (bits_Order_ok ((getI a0 (wrap64 (x10 - (1 : Int)))).bits) ((getI a0 x10).bits) wt65) (fun v66 S67 e68 z69 => ?_))
  replace qa0 := qa0.up e68
  replace q23 := q23.up e68
  replace q43 := q43.up e68
  obtain rfl := z69
  refine vl (Y.geI rfl rfl) ?_
  refine an ?_
  refine nt hK46 ?_
  refine G.cond _ rfl (fun c70 => ?_) (fun c70 => ?_)
  ·replace h := ite_t c70 h
   refine sr (fun _ hK71 => ?_)
   refine an ?_
   refine nt hK71 ?_
   refine G.ret ?_
   obtain rfl := Option.some.inj h
   obtain rfl := hf1 _ rfl
   have h := ho13
   try dsimp only at h
   obtain rfl := Option.some.inj h
   exact hret _ _ _ _ 2 (l2 e9 (l2 e31 (l2 e51 (l2 e60 e68)))) (.cons (.tmp rfl) .nil) rfl rfl
  replace h := ite_f c70 h
  refine G.skip ?_
  refine GX.normal_block ?_
  refine GX.normal_block ?_
  refine GX.then hK17 ?_
  refine G.region ?_
  refine vl (Y.addI rfl rfl) ?_
  refine mv ?_
  refine GO.nil ?_
  obtain rfl := Option.some.inj h
  refine GX.keep [11, 10, 9, 0] rfl ?_
  refine GX.less 2 rfl ?_
  exact hK1 _ _ _ _ rfl ⟨(l2 e9 (l2 e31 (l2 e51 (l2 e60 e68)))), rfl, rfl⟩
 replace h := ite_f c16 h
 refine G.exit ?_
 refine GX.exit_then ?_
 obtain rfl := Option.some.inj h
 refine GX.keep [] rfl ?_
 exact hx11 _ _ _ ⟨_, e9, (hf1 _ rfl).symm, rfl, rfl⟩

/- chirograph/patch.Sorted$1 -/
def patch_Sorted_1  (a0 : Item) (a1 : Item) : Option Int :=
 ((bits_Order a0.bits a1.bits).bind fun t7 => some t7)

theorem patch_Sorted_1_ok {S : Hp} (a0 : Item) (a1 : Item) {r : Int} (h : patch_Sorted_1 a0 a1 = some r) : Fn Tryz.prog 184 [aggV [sV (.int .i64 a0.len), sL a0.bits, sL a0.sum, sV (.int .i64 a0.at_)], aggV [sV (.int .i64 a1.len), sL a1.bits, sL a1.sum, sV (.int .i64 a1.at_)]] S (fun v S' => v = .int .i64 r) := by
 unfold patch_Sorted_1 at h
 refine fo [.tmp 4] 12 Tryz.func184 Tryz.ntmps184 (fun o F Q hQ hN hret => ?_)
 refine sr (fun _ hK1 => ?_)
 refine st (OS.boxA (by decide) rfl (fun ad2 => ?_))
 refine st (OS.boxA (by decide) rfl (fun ad4 => ?_))
 refine an ?_
 refine nt hK1 ?_
 refine sr (fun _ hK6 => ?_)
 refine vl (Y.fieldAddr 0 rfl fld29_0 rfl) ?_
 refine vl (Y.fieldAddr 1 rfl fld27_1 rfl) ?_
 refine lb 1 1 1 [sL a0.bits] row23 ?_
 refine vl (Y.fieldAddr 0 rfl fld29_0 rfl) ?_
 refine vl (Y.fieldAddr 1 rfl fld27_1 rfl) ?_
 refine lb 0 1 1 [sL a1.bits] row23 ?_
 obtain ⟨t7, wt7, h⟩ := bind_some' h
 refine st (cl fb121 (bits_Order_ok a0.bits a1.bits wt7) (fun v8 S9 e10 z11 => ?_))
 obtain rfl := z11
 refine an ?_
 refine nt hK6 ?_
 refine G.ret ?_
 obtain rfl := Option.some.inj h
 exact hret _ _ _ _ 2 e10 (.cons (.tmp rfl) .nil) rfl rfl

/- chirograph/patch.Sorted -/
def patch_Sorted (k : Nat) (a0 : (List Item)) : Option (List Item) :=
 ((slices_Clone_Item a0).bind fun t3 => ((slices_SortStableFunc_Item k t3 (fun x0₁ x1₁ => patch_Sorted_1 x0₁ x1₁)).bind fun t10 => some t10))

theorem patch_Sorted_ok {S : Hp} (k : Nat) (a0 : (List Item)) {va0 : Value} (qa0 : Sls S va0 a0) {r : (List Item)} (h : patch_Sorted k a0 = some r) : Fn Tryz.prog 123 [va0] S (fun v S' => Sls S' v r) := by
 unfold patch_Sorted at h
 refine fo [.tmp 2] 9 Tryz.func123 Tryz.ntmps123 (fun o F Q hQ hN hret => ?_)
 refine sr (fun _ hK1 => ?_)
 refine an ?_
 refine nt hK1 ?_
 refine sr (fun _ hK2 => ?_)
 refine mv ?_
 obtain ⟨t3, wt3, h⟩ := bind_some' h
 refine st (OS.callN _ (by decide) rfl fb182 (slices_Clone_Item_ok a0 qa0 wt3) (fun v4 S5 _ e6 z7 => ?_))
 replace qa0 := qa0.up e6
 obtain rfl := z7
 refine an ?_
 refine nt hK2 ?_
 refine sr (fun _ hK9 => ?_)
 refine mv ?_
 obtain ⟨t10, wt10, h⟩ := bind_some' h
 refine st (OS.callP 0 _ (by decide) rfl fb183 rfl (slices_SortStableFunc_Item_ok k (fv1 := 184) (cp1 := []) t3 (fun x0₁ x1₁ => patch_Sorted_1 x0₁ x1₁) fb184 (fun S₁ e₁ x0₁ x1₁ r₁ h₁ => patch_Sorted_1_ok x0₁ x1₁ h₁) wt10) (fun v11 S12 _ e13 z14 => ?_))
 replace qa0 := qa0.up e13
 obtain ⟨rfl, rfl⟩ := z14
 refine nt hK9 ?_
 refine sr (fun _ hK15 => ?_)
 refine mv ?_
 refine an ?_
 refine nt hK15 ?_
 refine G.ret ?_
 refine GX.shareR 0 rfl (fun S16 e17 q18 => ?_)
 replace qa0 := qa0.up e17
 obtain rfl := Option.some.inj h
 exact hret _ _ _ _ 1 (l2 e6 (l2 e13 e17)) (.cons (.tmp rfl) .nil) q18 rfl

/- chirograph/patch.Of -/
def patch_Of_s1 (a0 : (List Leaf)) : (Int × (List Item)) → Option ((Int × (List Item)) ⊕ (Int × (List Item)))
 | (x38, x39) => (if (decide (x38 < (lenI a0))) = true then ((req ((0 : Int) ≤ x38 ∧ x38 < lenI a0)).bind fun _ => ((node_Leaf_Item (getI a0 x38)).bind fun t56 => ((req (List.length x39 + List.length ([t56] : List Item) ≤ LIM)).bind fun _ => some (.inl ((wrap64 (x38 + (1 : Int))), (x39 ++ ([t56] : List Item))))))) else some (.inr (x38, x39)))

def patch_Of (k : Nat) (a0 : (List Leaf)) : Option (List Item) :=
 ((iter (patch_Of_s1 a0) ((0 : Int), ([] : List Item))).bind fun b42 => (match b42 with | (x38, x39) => ((patch_Sorted k x39).bind fun t71 => some t71)))

theorem patch_Of_ok {S : Hp} (k : Nat) (a0 : (List Leaf)) {va0 : Value} (qa0 : Sls S va0 a0) {r : (List Item)} (h : patch_Of k a0 = some r) : Fn Tryz.prog 44 [va0] S (fun v S' => Sls S' v r) := by
 unfold patch_Of at h
 refine fo [.tmp 2] 20 Tryz.func44 Tryz.ntmps44 (fun o F Q hQ hN hret => ?_)
 refine sr (fun _ hK1 => ?_)
 refine an ?_
 refine nt hK1 ?_
 refine sr (fun _ hK2 => ?_)
 refine an ?_
 refine nt hK2 ?_
 refine G.seq (fun _ hK3 => ?_)
 refine sr (fun _ hK4 => ?_)
 refine mv ?_
 refine vl (Y.lenS rfl qa0 slc35) ?_
 refine mv ?_
 refine nt hK4 ?_
 refine G.block ?_
 refine G.nilRow (α := Item) ?_
 obtain ⟨b42, wb42, ho43⟩ := bind_some' h
 refine G.keep [8, 7, 6, 3] rfl ?_
 refine G.loopK (patch_Of_s1 a0) (fun s₀ E' S' L' => match s₀ with | (x38, x39) => S.le S' ∧ ∃ (v40 : Value), E' = [(8, .int .i64 x38), (7, .int .i64 (lenI a0)), (6, va0), (3, v40)] ∧ Rw v40 x39 :: F = L') b42 0 (fun E₀ S₀ L₀ => ∃ (x38 : Int) (x39 : (List Item)) (v40 : Value), S.le S₀ ∧ b42 = (x38, x39) ∧ E₀ = [(3, v40)] ∧ Rw v40 x39 :: F = L₀) wb42 ?_ ?_ ?_
 ·rintro _ S65 _ ⟨x38, x39, v40, e66, rfl, rfl, rfl⟩
  have h := ho43; clear ho43
  try dsimp only at h
  refine GX.exit_block ?_
  refine GX.then hK3 ?_
  refine sr (fun _ hK67 => ?_)
  refine mv ?_
  obtain ⟨t71, wt71, h⟩ := bind_some' h
  refine GO.shareR 0 rfl (fun S68 e69 q70 => ?_)
  refine st (cl fb123 (patch_Sorted_ok k x39 q70 wt71) (fun v72 S73 e74 z75 => ?_))
  replace q70 := q70.up e74
  have q77 := z75
  refine an ?_
  refine nt hK67 ?_
  refine G.ret ?_
  obtain rfl := Option.some.inj h
  exact hret _ _ _ _ 1 (l2 e66 (l2 e69 e74)) (.cons (.tmp rfl) .nil) q77 rfl
 ·exact ⟨Hp.le_refl _, (.slice none 0 0), rfl, rfl⟩
 rintro ⟨x38, x39⟩ _ S36 _ ⟨e37, v40, rfl, rfl⟩ out1 h hf1 K1 hK1 hx41
 rw [patch_Of_s1] at h
 replace qa0 := qa0.up e37
 refine sr (fun _ hK44 => ?_)
 refine vl (Y.ltI rfl rfl) ?_
 refine nt hK44 ?_
 refine G.seq (fun _ hK45 => ?_)
 refine G.cond _ rfl (fun c46 => ?_) (fun c46 => ?_)
 ·replace h := ite_t c46 h
  refine sk hK45 ?_
  refine G.seq (fun _ hK47 => ?_)
  refine G.block ?_
  refine sr (fun _ hK48 => ?_)
  obtain ⟨g49, h⟩ := req_bind h
  obtain ⟨ad50, p51, z52, q53⟩ := Sls.at qa0 g49
  refine vl (Y.idxS rfl z52 rfl slc35 g49) ?_
  refine vl (Y.loadS [sL ((getI a0 x38).label), sL ((getI a0 x38).value), sV (.int .i64 ((getI a0 x38).at_))] rfl (At.part q53 0 3 _ rfl rfl) row25 (by kernel_rfl)) ?_
  refine st (OS.alloc _ (by decide) zero25 (fun ad54 => ?_))
  refine sf 0 3 [sL ((getI a0 x38).label), sL ((getI a0 x38).value), sV (.int .i64 ((getI a0 x38).at_))] (aggV_cells _) (oL (oL (oI oN))) size25 ?_
  refine nt hK48 ?_
  refine G.region ?_
  refine mv ?_
  refine lb 0 0 3 [sL ((getI a0 x38).label), sL ((getI a0 x38).value), sV (.int .i64 ((getI a0 x38).at_))] row25 ?_
  obtain ⟨t56, wt56, h⟩ := bind_some' h
  refine st (cl fb53 (node_Leaf_Item_ok (getI a0 x38) wt56) (fun v57 S58 e59 z60 => ?_))
  replace qa0 := qa0.up e59
  replace q53 := q53.up e59
  obtain rfl := z60
  refine bs ([t56] : List Item) el32 (fun v61 => ?_)
  obtain ⟨g63, h⟩ := req_bind h
  refine st (OS.append (xs := x39) (ys := ([t56] : List Item)) 2 (by decide) rfl rfl rfl (Rw.src (k := 0) rfl) el32 src32 g63 (fun v64 => ?_))
  refine an ?_
  refine GO.nil ?_
  refine GX.normal_block ?_
  refine GX.then hK47 ?_
  refine G.region ?_
  refine vl (Y.addI rfl rfl) ?_
  refine mv ?_
  refine GO.nil ?_
  obtain rfl := Option.some.inj h
  refine GX.keep [8, 7, 6, 3] rfl ?_
  refine GX.less 2 rfl ?_
  exact hK1 _ _ _ _ rfl ⟨(l2 e37 e59), v64, rfl, rfl⟩
 replace h := ite_f c46 h
 refine G.exit ?_
 refine GX.exit_then ?_
 obtain rfl := Option.some.inj h
 refine GX.keep [3] rfl ?_
 exact hx41 _ _ _ ⟨_, _, _, e37, (hf1 _ rfl).symm, rfl, rfl⟩

/- chirograph/patch.join$1 -/
def patch_join_1  (a0 : Item) (a1 : Int) : Option Bool :=
 ((bits_Bit a0.bits a1).bind fun t5 => some (t5 == (1 : Int)))

theorem patch_join_1_ok {S : Hp} (a0 : Item) (a1 : Int) {b1 o1 : Nat} (qp1 : At S b1 o1 (cells [sV (.int .i64 a1)])) {r : Bool} (h : patch_join_1 a0 a1 = some r) : Fn Tryz.prog 189 [aggV [sV (.int .i64 a0.len), sL a0.bits, sL a0.sum, sV (.int .i64 a0.at_)], .pointer (some ⟨b1, o1, none⟩)] S (fun v S' => v = .bool r) := by
 unfold patch_join_1 at h
 refine fo [.tmp 3] 10 Tryz.func189 Tryz.ntmps189 (fun o F Q hQ hN hret => ?_)
 refine sr (fun _ hK1 => ?_)
 refine st (OS.boxA (by decide) rfl (fun ad2 => ?_))
 refine an ?_
 refine nt hK1 ?_
 refine sr (fun _ hK4 => ?_)
 refine vl (Y.fieldAddr 0 rfl fld29_0 rfl) ?_
 refine vl (Y.fieldAddr 1 rfl fld27_1 rfl) ?_
 refine lb 0 1 1 [sL a0.bits] row23 ?_
 refine vl (Y.loadSV _ rfl (At.val (At.part qp1 0 1 [sV (.int .i64 a1)] rfl rfl)) one3) ?_
 obtain ⟨t5, wt5, h⟩ := bind_some' h
 refine st (cl fb48 (bits_Bit_ok a0.bits a1 wt5) (fun v6 S7 e8 z9 => ?_))
 replace qp1 := qp1.up e8
 obtain rfl := z9
 refine vl (Y.eqI rfl rfl) ?_
 refine an ?_
 refine nt hK4 ?_
 refine G.ret ?_
 obtain rfl := Option.some.inj h
 exact hret _ _ _ _ 1 e8 (.cons (.tmp rfl) .nil) rfl rfl

/- chirograph/patch.join -/
def patch_join : Nat → (List Item) → Option Item
 | 0 => fun _ => none
 | k + 1 => fun a0 =>
 (if ((lenI a0) == (1 : Int)) = true then ((req ((0 : Int) ≤ (0 : Int) ∧ (0 : Int) < lenI a0)).bind fun _ => some (getI a0 (0 : Int))) else ((req ((0 : Int) ≤ (0 : Int) ∧ (0 : Int) < lenI a0)).bind fun _ => ((req ((0 : Int) ≤ (wrap64 ((lenI a0) - (1 : Int))) ∧ (wrap64 ((lenI a0) - (1 : Int))) < lenI a0)).bind fun _ => ((bits_Common ((getI a0 (0 : Int)).bits) ((getI a0 (wrap64 ((lenI a0) - (1 : Int)))).bits)).bind fun t25 => ((slices_IndexFunc_Item a0 (fun x0₁ => patch_join_1 x0₁ t25)).bind fun t59 => ((req ((0 : Int) ≤ 0 ∧ 0 ≤ t59 ∧ t59 ≤ lenI a0)).bind fun _ => ((patch_join k (cutL a0 0 t59)).bind fun t69 => ((req ((0 : Int) ≤ t59 ∧ t59 ≤ (lenI a0) ∧ (lenI a0) ≤ lenI a0)).bind fun _ => ((patch_join k (cutL a0 t59 (lenI a0))).bind fun t80 => ((node_Inner_Item (⟨t69, t80⟩ : Inner)).bind fun t89 => some t89))))))))))

theorem patch_join_ok (k : Nat) : ∀ {S : Hp} (a0 : (List Item)) {va0 : Value} (qa0 : Sls S va0 a0) {r : Item} (h : patch_join k a0 = some r), Fn Tryz.prog 143 [va0] S (fun v S' => v = aggV [sV (.int .i64 r.len), sL r.bits, sL r.sum, sV (.int .i64 r.at_)]) := by
 induction k with
 | zero => intro S; intros; rename_i h; simp [patch_join] at h
 | succ k ih =>
 intro S a0 va0 qa0 r h
 rw [patch_join] at h
 replace ih := @ih
 refine fo [.cell 2 29] 38 Tryz.func143 Tryz.ntmps143 (fun o F Q hQ hN hret => ?_)
 refine sr (fun _ hK1 => ?_)
 refine st (OS.alloc _ (by decide) zero29 (fun ad2 => ?_))
 refine nt hK1 ?_
 refine G.seq (fun _ hK4 => ?_)
 refine sr (fun _ hK5 => ?_)
 refine mv ?_
 refine vl (Y.lenS rfl qa0 slc32) ?_
 refine vl (Y.eqI rfl rfl) ?_
 refine nt hK5 ?_
 refine G.cond _ rfl (fun c6 => ?_) (fun c6 => ?_)
 ·replace h := ite_t c6 h
  refine sr (fun _ hK7 => ?_)
  refine mv ?_
  obtain ⟨g8, h⟩ := req_bind h
  obtain ⟨ad9, p10, z11, q12⟩ := Sls.at qa0 g8
  refine vl (Y.idxS rfl z11 rfl slc32 g8) ?_
  refine vl (Y.loadS [sV (.int .i64 ((getI a0 (0 : Int)).len)), sL ((getI a0 (0 : Int)).bits), sL ((getI a0 (0 : Int)).sum), sV (.int .i64 ((getI a0 (0 : Int)).at_))] rfl (At.part q12 0 4 _ rfl rfl) row29 (by kernel_rfl)) ?_
  refine sf 0 4 [sV (.int .i64 ((getI a0 (0 : Int)).len)), sL ((getI a0 (0 : Int)).bits), sL ((getI a0 (0 : Int)).sum), sV (.int .i64 ((getI a0 (0 : Int)).at_))] (aggV_cells _) (oI (oL (oL (oI oN)))) size29 ?_
  refine nt hK7 ?_
  refine G.ret ?_
  obtain rfl := Option.some.inj h
  exact hret _ _ _ _ 1 l0 (.cons (.row (k := 0) rfl rfl row29 (by kernel_rfl)) .nil) rfl rfl
 replace h := ite_f c6 h
 refine sk hK4 ?_
 refine G.seq (fun _ hK13 => ?_)
 obtain ⟨g15, h⟩ := req_bind h
 obtain ⟨ad16, p17, z18, q19⟩ := Sls.at qa0 g15
 obtain ⟨g20, h⟩ := req_bind h
 obtain ⟨ad21, p22, z23, q24⟩ := Sls.at qa0 g20
 obtain ⟨t25, wt25, h⟩ := bind_some' h
 refine G.cut (fun E₀ S₀ L₀ => ∃ (ad33 : Nat), S.le S₀ ∧ E₀ = [(3, .pointer (some ⟨ad33, 0, none⟩)), (2, .pointer (some ⟨ad2, 0, none⟩)), (0, va0)] ∧ Blk ad33 [sV (.int .i64 t25)] :: Blk ad2 [sV (.int .i64 0), sL zL, sL zL, sV (.int .i64 0)] :: F = L₀) (fun K14 hK14 => ?_) ?_
 ·refine G.drawN 16 mixed (by kernel_rfl) ?_
  refine tn 0 rfl hQ (fun _ _ _ => Y.move rfl) ?_
  refine tn 1 rfl hQ (fun _ _ _ => Y.idxS rfl z18 rfl slc32 g15) ?_
  refine tn 2 rfl hQ (fun _ _ _ => Y.fieldAddr _ rfl fld29_0 rfl) ?_
  refine tn 3 rfl hQ (fun _ _ _ => Y.fieldAddr _ rfl fld27_1 rfl) ?_
  refine tn 4 rfl hQ (fun S₀ X₀ e₀ => Y.loadS [sL ((getI a0 (0 : Int)).bits)] rfl (At.part (q19.up e₀) 1 1 _ rfl rfl) row23 (by kernel_rfl)) ?_
  refine tn 5 rfl hQ (fun _ _ _ => Y.move rfl) ?_
  refine tn 6 rfl hQ (fun _ _ _ => Y.move rfl) ?_
  refine tn 7 rfl hQ (fun S₀ X₀ e₀ => Y.lenS rfl (qa0.up e₀) slc32) ?_
  refine tn 8 rfl hQ (fun _ _ _ => Y.subI rfl rfl) ?_
  refine tn 9 rfl hQ (fun _ _ _ => Y.idxS rfl z23 rfl slc32 g20) ?_
  refine tn 10 rfl hQ (fun _ _ _ => Y.fieldAddr _ rfl fld29_0 rfl) ?_
  refine tn 11 rfl hQ (fun _ _ _ => Y.fieldAddr _ rfl fld27_1 rfl) ?_
  refine tn 12 rfl hQ (fun S₀ X₀ e₀ => Y.loadS [sL ((getI a0 (wrap64 ((lenI a0) - (1 : Int)))).bits)] rfl (At.part (q24.up e₀) 1 1 _ rfl rfl) row23 (by kernel_rfl)) ?_
  refine GDr.any [13, 14] (by kernel_rfl) rfl (AllR.two ?_ ?_)
  ·refine n1 rfl (cl fb124 (bits_Common_ok ((getI a0 (0 : Int)).bits) ((getI a0 (wrap64 ((lenI a0) - (1 : Int)))).bits) wt25) (fun v35 S36 e37 z38 => ⟨⟨[], .refl, e37⟩, ?_⟩))
   have q39 := qa0.up e37
   have q40 := q19.up e37
   have q41 := q24.up e37
   obtain rfl := z38
   refine g1 14 ?_
   refine n1 rfl (OS.alloc _ (by decide) zero3 (fun ad42 => ⟨⟨[_], (.same .refl), e37⟩, ?_⟩))
   refine g1 15 ?_
   refine n1 rfl (OS.store 0 0 1 [sV (.int .i64 t25)] (r := [sV (.int .i64 t25)]) rfl rfl rfl (oI oN) rfl rfl size3 (by kernel_rfl) (by kernel_rfl) (by kernel_rfl) ⟨⟨[_], (.same .refl), e37⟩, ?_⟩)
   refine dn ?_
   refine GX.keep [3, 2, 0] rfl ?_
   exact hK14 _ _ _ ⟨ad42, e37, rfl, rfl⟩
  refine n1 rfl (OS.alloc _ (by decide) zero3 (fun ad44 => ⟨⟨[_], (.same .refl), l0⟩, ?_⟩))
  refine g1 13 ?_
  refine n1 rfl (cl fb124 (bits_Common_ok ((getI a0 (0 : Int)).bits) ((getI a0 (wrap64 ((lenI a0) - (1 : Int)))).bits) wt25) (fun v46 S47 e48 z49 => ⟨⟨[_], (.same .refl), e48⟩, ?_⟩))
  have q50 := qa0.up e48
  have q51 := q19.up e48
  have q52 := q24.up e48
  obtain rfl := z49
  refine g1 15 ?_
  refine n1 rfl (OS.store 0 0 1 [sV (.int .i64 t25)] (r := [sV (.int .i64 t25)]) rfl rfl rfl (oI oN) rfl rfl size3 (by kernel_rfl) (by kernel_rfl) (by kernel_rfl) ⟨⟨[_], (.same .refl), e48⟩, ?_⟩)
  refine dn ?_
  refine GX.keep [3, 2, 0] rfl ?_
  exact hK14 _ _ _ ⟨ad44, e48, rfl, rfl⟩
 rintro _ S53 _ ⟨ad33, e54, rfl, rfl⟩
 replace qa0 := qa0.up e54
 refine GX.then hK13 ?_
 refine sr (fun _ hK55 => ?_)
 refine mv ?_
 refine GO.shareB 0 rfl (fun S56 e57 q58 => ?_)
 replace qa0 := qa0.up e57
 refine vl (Y.makeFunc rfl) ?_
 obtain ⟨t59, wt59, h⟩ := bind_some' h
 refine st (cl fb188 (slices_IndexFunc_Item_ok (fv1 := 189) (cp1 := [.pointer (some ⟨ad33, 0, none⟩)]) a0 (fun x0₁ => patch_join_1 x0₁ t25) qa0 fb189 (fun S₁ e₁ x0₁ r₁ h₁ => patch_join_1_ok x0₁ t25 (q58.up e₁) h₁) wt59) (fun v60 S61 e62 z63 => ?_))
 replace q58 := q58.up e62
 replace qa0 := qa0.up e62
 obtain rfl := z63
 refine an ?_
 refine nt hK55 ?_
 refine G.seq (fun _ hK64 => ?_)
 obtain ⟨g66, h⟩ := req_bind h
 obtain ⟨t69, wt69, h⟩ := bind_some' h
 obtain ⟨g77, h⟩ := req_bind h
 obtain ⟨t80, wt80, h⟩ := bind_some' h
 obtain ⟨t89, wt89, h⟩ := bind_some' h
 refine G.cut (fun E₀ S₀ L₀ => S61.le S₀ ∧ E₀ = [(2, .pointer (some ⟨ad2, 0, none⟩))] ∧ (fun _ => True) :: Blk ad2 [sV (.int .i64 t89.len), sL t89.bits, sL t89.sum, sV (.int .i64 t89.at_)] :: F = L₀) (fun K65 hK65 => ?_) ?_
 ·refine G.drawS 10 _ ((fun _ => True) :: (fun _ => True) :: F) mixed .refl (by kernel_rfl) ?_
  refine tx 0 rfl (.same (.lose .refl)) hQ (fun _ _ _ => Y.move rfl) ?_
  refine tx 1 rfl (.same (.lose .refl)) hQ (fun _ _ _ => Y.move rfl) ?_
  refine tx 4 rfl (.same (.lose .refl)) hQ (fun _ _ _ => Y.move rfl) ?_
  refine tx 5 rfl (.same (.lose .refl)) hQ (fun _ _ _ => Y.move rfl) ?_
  refine GDr.any [2, 6] (by kernel_rfl) rfl (AllR.two ?_ ?_)
  ·refine n1 rfl (OS.sliceS 0 t59 none (some (.int .i64 t59)) (by decide) rfl qa0 slc32 rfl rfl (.inl ⟨rfl, rfl⟩) (.inr ⟨_, rfl⟩) g66 (fun v98 q99 => ⟨⟨[], .refl, l0⟩, ?_⟩))
   refine GDr.any [3, 6] (by kernel_rfl) rfl (AllR.two ?_ ?_)
   ·refine n1 rfl (cl fb143 (ih (cutL a0 0 t59) q99 wt69) (fun v100 S101 e102 z103 => ⟨⟨[], .refl, e102⟩, ?_⟩))
    have q104 := q58.up e102
    have q105 := qa0.up e102
    have q106 := q99.up e102
    obtain rfl := z103
    refine g1 6 ?_
    refine n1 rfl (OS.sliceS t59 (lenI a0) (some (.int .i64 t59)) none (by decide) rfl q105 slc32 rfl rfl (.inr ⟨_, rfl⟩) (.inl ⟨rfl, rfl⟩) g77 (fun v107 q108 => ⟨⟨[], .refl, e102⟩, ?_⟩))
    refine g1 7 ?_
    refine n1 rfl (cl fb143 (ih (cutL a0 t59 (lenI a0)) q108 wt80) (fun v109 S110 e111 z112 => ⟨⟨[], .refl, (l2 e102 e111)⟩, ?_⟩))
    have q113 := q104.up e111
    have q114 := q105.up e111
    have q115 := q106.up e111
    have q116 := q108.up e111
    obtain rfl := z112
    refine tx 8 rfl (.same (.lose .refl)) hQ (fun _ _ _ => Y.buildE _ [sV (.int .i64 t69.len), sL t69.bits, sL t69.sum, sV (.int .i64 t69.at_), sV (.int .i64 t80.len), sL t80.bits, sL t80.sum, sV (.int .i64 t80.at_)] strt31 zero31 rfl (.cons 0 4 [sV (.int .i64 t69.len), sL t69.bits, sL t69.sum, sV (.int .i64 t69.at_)] rfl (aggV_cells _) rfl rfl rfl (.cons 4 4 [sV (.int .i64 t80.len), sL t80.bits, sL t80.sum, sV (.int .i64 t80.at_)] rfl (aggV_cells _) rfl rfl rfl .nil))) ?_
    refine g1 9 ?_
    refine n1 rfl (cl fb46 (node_Inner_Item_ok (⟨t69, t80⟩ : Inner) wt89) (fun v117 S118 e119 z120 => ⟨⟨[], .refl, (l2 e102 (l2 e111 e119))⟩, ?_⟩))
    have q121 := q113.up e119
    have q122 := q114.up e119
    have q123 := q115.up e119
    have q124 := q116.up e119
    obtain rfl := z120
    refine g1 10 ?_
    refine n2 rfl (OS.store 1 0 4 [sV (.int .i64 t89.len), sL t89.bits, sL t89.sum, sV (.int .i64 t89.at_)] (r := [sV (.int .i64 t89.len), sL t89.bits, sL t89.sum, sV (.int .i64 t89.at_)]) rfl rfl (aggV_cells _) (oI (oL (oL (oI oN)))) rfl rfl size29 (by kernel_rfl) (by kernel_rfl) (by kernel_rfl) ⟨⟨[], (.same (.lose .refl)), (l2 e102 (l2 e111 e119))⟩, ?_⟩)
    refine dn ?_
    refine GX.keep [2] rfl ?_
    exact hK65 _ _ _ ⟨(l2 e102 (l2 e111 e119)), rfl, rfl⟩
   refine n1 rfl (OS.sliceS t59 (lenI a0) (some (.int .i64 t59)) none (by decide) rfl qa0 slc32 rfl rfl (.inr ⟨_, rfl⟩) (.inl ⟨rfl, rfl⟩) g77 (fun v125 q126 => ⟨⟨[], .refl, l0⟩, ?_⟩))
   refine g1 3 ?_
   refine n1 rfl (cl fb143 (ih (cutL a0 0 t59) q99 wt69) (fun v127 S128 e129 z130 => ⟨⟨[], .refl, e129⟩, ?_⟩))
   have q131 := q58.up e129
   have q132 := qa0.up e129
   have q133 := q99.up e129
   have q134 := q126.up e129
   obtain rfl := z130
   refine g1 7 ?_
   refine n1 rfl (cl fb143 (ih (cutL a0 t59 (lenI a0)) q134 wt80) (fun v135 S136 e137 z138 => ⟨⟨[], .refl, (l2 e129 e137)⟩, ?_⟩))
   have q139 := q131.up e137
   have q140 := q132.up e137
   have q141 := q133.up e137
   have q142 := q134.up e137
   obtain rfl := z138
   refine tx 8 rfl (.same (.lose .refl)) hQ (fun _ _ _ => Y.buildE _ [sV (.int .i64 t69.len), sL t69.bits, sL t69.sum, sV (.int .i64 t69.at_), sV (.int .i64 t80.len), sL t80.bits, sL t80.sum, sV (.int .i64 t80.at_)] strt31 zero31 rfl (.cons 0 4 [sV (.int .i64 t69.len), sL t69.bits, sL t69.sum, sV (.int .i64 t69.at_)] rfl (aggV_cells _) rfl rfl rfl (.cons 4 4 [sV (.int .i64 t80.len), sL t80.bits, sL t80.sum, sV (.int .i64 t80.at_)] rfl (aggV_cells _) rfl rfl rfl .nil))) ?_
   refine g1 9 ?_
   refine n1 rfl (cl fb46 (node_Inner_Item_ok (⟨t69, t80⟩ : Inner) wt89) (fun v143 S144 e145 z146 => ⟨⟨[], .refl, (l2 e129 (l2 e137 e145))⟩, ?_⟩))
   have q147 := q139.up e145
   have q148 := q140.up e145
   have q149 := q141.up e145
   have q150 := q142.up e145
   obtain rfl := z146
   refine g1 10 ?_
   refine n2 rfl (OS.store 1 0 4 [sV (.int .i64 t89.len), sL t89.bits, sL t89.sum, sV (.int .i64 t89.at_)] (r := [sV (.int .i64 t89.len), sL t89.bits, sL t89.sum, sV (.int .i64 t89.at_)]) rfl rfl (aggV_cells _) (oI (oL (oL (oI oN)))) rfl rfl size29 (by kernel_rfl) (by kernel_rfl) (by kernel_rfl) ⟨⟨[], (.same (.lose .refl)), (l2 e129 (l2 e137 e145))⟩, ?_⟩)
   refine dn ?_
   refine GX.keep [2] rfl ?_
   exact hK65 _ _ _ ⟨(l2 e129 (l2 e137 e145)), rfl, rfl⟩
  refine n1 rfl (OS.sliceS t59 (lenI a0) (some (.int .i64 t59)) none (by decide) rfl qa0 slc32 rfl rfl (.inr ⟨_, rfl⟩) (.inl ⟨rfl, rfl⟩) g77 (fun v151 q152 => ⟨⟨[], .refl, l0⟩, ?_⟩))
  refine g1 2 ?_
  refine n1 rfl (OS.sliceS 0 t59 none (some (.int .i64 t59)) (by decide) rfl qa0 slc32 rfl rfl (.inl ⟨rfl, rfl⟩) (.inr ⟨_, rfl⟩) g66 (fun v153 q154 => ⟨⟨[], .refl, l0⟩, ?_⟩))
  refine g1 3 ?_
  refine n1 rfl (cl fb143 (ih (cutL a0 0 t59) q154 wt69) (fun v155 S156 e157 z158 => ⟨⟨[], .refl, e157⟩, ?_⟩))
  have q159 := q58.up e157
  have q160 := qa0.up e157
  have q161 := q152.up e157
  have q162 := q154.up e157
  obtain rfl := z158
  refine g1 7 ?_
  refine n1 rfl (cl fb143 (ih (cutL a0 t59 (lenI a0)) q161 wt80) (fun v163 S164 e165 z166 => ⟨⟨[], .refl, (l2 e157 e165)⟩, ?_⟩))
  have q167 := q159.up e165
  have q168 := q160.up e165
  have q169 := q161.up e165
  have q170 := q162.up e165
  obtain rfl := z166
  refine tx 8 rfl (.same (.lose .refl)) hQ (fun _ _ _ => Y.buildE _ [sV (.int .i64 t69.len), sL t69.bits, sL t69.sum, sV (.int .i64 t69.at_), sV (.int .i64 t80.len), sL t80.bits, sL t80.sum, sV (.int .i64 t80.at_)] strt31 zero31 rfl (.cons 0 4 [sV (.int .i64 t69.len), sL t69.bits, sL t69.sum, sV (.int .i64 t69.at_)] rfl (aggV_cells _) rfl rfl rfl (.cons 4 4 [sV (.int .i64 t80.len), sL t80.bits, sL t80.sum, sV (.int .i64 t80.at_)] rfl (aggV_cells _) rfl rfl rfl .nil))) ?_
  refine g1 9 ?_
  refine n1 rfl (cl fb46 (node_Inner_Item_ok (⟨t69, t80⟩ : Inner) wt89) (fun v171 S172 e173 z174 => ⟨⟨[], .refl, (l2 e157 (l2 e165 e173))⟩, ?_⟩))
  have q175 := q167.up e173
  have q176 := q168.up e173
  have q177 := q169.up e173
  have q178 := q170.up e173
  obtain rfl := z174
  refine g1 10 ?_
  refine n2 rfl (OS.store 1 0 4 [sV (.int .i64 t89.len), sL t89.bits, sL t89.sum, sV (.int .i64 t89.at_)] (r := [sV (.int .i64 t89.len), sL t89.bits, sL t89.sum, sV (.int .i64 t89.at_)]) rfl rfl (aggV_cells _) (oI (oL (oL (oI oN)))) rfl rfl size29 (by kernel_rfl) (by kernel_rfl) (by kernel_rfl) ⟨⟨[], (.same (.lose .refl)), (l2 e157 (l2 e165 e173))⟩, ?_⟩)
  refine dn ?_
  refine GX.keep [2] rfl ?_
  exact hK65 _ _ _ ⟨(l2 e157 (l2 e165 e173)), rfl, rfl⟩
 rintro _ S179 _ ⟨e180, rfl, rfl⟩
 refine GX.then hK64 ?_
 refine G.ret ?_
 obtain rfl := Option.some.inj h
 exact hret _ _ _ _ 2 (l2 e54 (l2 e57 (l2 e62 e180))) (.cons (.row (k := 1) rfl rfl row29 (by kernel_rfl)) .nil) rfl rfl

/- chirograph/patch.Top -/
def patch_Top (k : Nat) (a0 : (List Item)) : Option (Lab × Int) :=
 ((patch_Check a0).bind fun t6 => (if (t6 != (0 : Int)) = true then some (zL, t6) else (if ((lenI a0) == (0 : Int)) = true then ((node_Empty).bind fun t18 => some (t18, (0 : Int))) else ((patch_join k a0).bind fun t24 => some (t24.sum, (0 : Int))))))

theorem patch_Top_ok {S : Hp} (k : Nat) (a0 : (List Item)) {va0 : Value} (qa0 : Sls S va0 a0) {r : Lab × Int} (h : patch_Top k a0 = some r) : Fn Tryz.prog 67 [va0] S (fun v S' => v = .tuple #[aggV [sL r.1], .int .i64 r.2]) := by
 unfold patch_Top at h
 refine fo [.cell 2 23, .tmp 3] 18 Tryz.func67 Tryz.ntmps67 (fun o F Q hQ hN hret => ?_)
 refine sr (fun _ hK1 => ?_)
 refine st (OS.alloc _ (by decide) zero23 (fun ad2 => ?_))
 refine an ?_
 refine nt hK1 ?_
 refine G.seq (fun _ hK4 => ?_)
 refine sr (fun _ hK5 => ?_)
 refine mv ?_
 obtain ⟨t6, wt6, h⟩ := bind_some' h
 refine st (cl fb43 (patch_Check_ok a0 qa0 wt6) (fun v7 S8 e9 z10 => ?_))
 replace qa0 := qa0.up e9
 obtain rfl := z10
 refine an ?_
 refine nt hK5 ?_
 refine sr (fun _ hK11 => ?_)
 refine mv ?_
 refine vl (Y.neI rfl rfl) ?_
 refine nt hK11 ?_
 refine G.cond _ rfl (fun c12 => ?_) (fun c12 => ?_)
 ·replace h := ite_t c12 h
  refine sr (fun _ hK13 => ?_)
  refine vl (Y.buildA [] [sL zL] arr23 zero23 rfl (by kernel_rfl) (by kernel_rfl)) ?_
  refine mv ?_
  refine sf 0 1 [sL zL] (aggV_cells _) (oL oN) size23 ?_
  refine an ?_
  refine nt hK13 ?_
  refine G.ret ?_
  obtain rfl := Option.some.inj h
  exact hret _ _ _ _ 1 e9 (.cons (.row (k := 0) rfl rfl row23 (by kernel_rfl)) (.cons (.tmp rfl) .nil)) rfl rfl
 replace h := ite_f c12 h
 refine sk hK4 ?_
 refine G.seq (fun _ hK14 => ?_)
 refine sr (fun _ hK15 => ?_)
 refine mv ?_
 refine vl (Y.lenS rfl qa0 slc32) ?_
 refine vl (Y.eqI rfl rfl) ?_
 refine nt hK15 ?_
 refine G.cond _ rfl (fun c16 => ?_) (fun c16 => ?_)
 ·replace h := ite_t c16 h
  refine sr (fun _ hK17 => ?_)
  obtain ⟨t18, wt18, h⟩ := bind_some' h
  refine st (cl fb38 (node_Empty_ok  wt18) (fun v19 S20 e21 z22 => ?_))
  replace qa0 := qa0.up e21
  obtain rfl := z22
  refine sf 0 1 [sL t18] (aggV_cells _) (oL oN) size23 ?_
  refine an ?_
  refine nt hK17 ?_
  refine G.ret ?_
  obtain rfl := Option.some.inj h
  exact hret _ _ _ _ 1 (l2 e9 e21) (.cons (.row (k := 0) rfl rfl row23 (by kernel_rfl)) (.cons (.tmp rfl) .nil)) rfl rfl
 replace h := ite_f c16 h
 refine sk hK14 ?_
 refine sr (fun _ hK23 => ?_)
 refine mv ?_
 obtain ⟨t24, wt24, h⟩ := bind_some' h
 refine st (cl fb143 (patch_join_ok k a0 qa0 wt24) (fun v25 S26 e27 z28 => ?_))
 replace qa0 := qa0.up e27
 obtain rfl := z28
 refine vl (Y.field 2 1 [sL t24.sum] rfl ⟨_, _, Tryz.underlying29, rfl, rfl, rfl⟩ rfl rfl row23 (by kernel_rfl)) ?_
 refine sf 0 1 [sL t24.sum] (aggV_cells _) (oL oN) size23 ?_
 refine an ?_
 refine nt hK23 ?_
 refine G.ret ?_
 obtain rfl := Option.some.inj h
 exact hret _ _ _ _ 1 (l2 e9 e27) (.cons (.row (k := 0) rfl rfl row23 (by kernel_rfl)) (.cons (.tmp rfl) .nil)) rfl rfl

end
end Go.Ch
end
section
/- Functions of the program: what each comes to, proved. -/
set_option linter.unusedVariables false
set_option linter.unusedSimpArgs false
set_option maxRecDepth 100000
set_option maxHeartbeats 4000000
namespace Go.Ch
open Go.RowKit (wrap64)
open Go.Proofs
noncomputable section
/- chirograph/proof.Extract -/
def proof_Extract_s1 (k : Nat) (a1 : Lab) (t17 : (List Nd) × Int) : (Int × (List Leaf)) → Option ((Int × (List Leaf)) ⊕ (Str × Str × Bool ⊕ (Int × (List Leaf))))
 | (x49, x50) => (if (decide ((-1 : Int) ≤ x49)) = true then (if (decide ((0 : Int) ≤ x49)) = true then ((req ((0 : Int) ≤ x49 ∧ x49 < lenI t17.1)).bind fun _ => ((proof_Summed (getI t17.1 x49)).bind fun t88 => (if ((lenI x50) == (0 : Int)) = true then (if (!(t88 == ([18] : List UInt8))) = true then ((proof_Clash t88 ([18] : List UInt8)).bind fun t101 => some (.inr (.inl (t88, ([18] : List UInt8), t101)))) else (if (decide ((1 : Int) < (lenI x50))) = true then ((proof_pair (proof_item k) x50).bind fun t109 => ((node_Inner_Item t109).bind fun t114 => ((proof_sides x50 t114.len).bind fun t120 => ((bits_Bit a1 t114.len).bind fun t131 => (if (t131 == (1 : Int)) = true then some (.inl ((wrap64 (x49 - (1 : Int))), t120.2)) else some (.inl ((wrap64 (x49 - (1 : Int))), t120.1))))))) else some (.inl ((wrap64 (x49 - (1 : Int))), x50)))) else (if ((lenI x50) == (1 : Int)) = true then ((req ((0 : Int) ≤ (0 : Int) ∧ (0 : Int) < lenI x50)).bind fun _ => ((proof_Summed (Nd.leaf (getI x50 (0 : Int)))).bind fun t144 => (if (!(t88 == t144)) = true then ((proof_Clash t88 t144).bind fun t153 => some (.inr (.inl (t88, t144, t153)))) else (if (decide ((1 : Int) < (lenI x50))) = true then ((proof_pair (proof_item k) x50).bind fun t161 => ((node_Inner_Item t161).bind fun t166 => ((proof_sides x50 t166.len).bind fun t172 => ((bits_Bit a1 t166.len).bind fun t183 => (if (t183 == (1 : Int)) = true then some (.inl ((wrap64 (x49 - (1 : Int))), t172.2)) else some (.inl ((wrap64 (x49 - (1 : Int))), t172.1))))))) else some (.inl ((wrap64 (x49 - (1 : Int))), x50)))))) else ((proof_pair (proof_item k) x50).bind fun t189 => ((proof_Summed (Nd.inner t189)).bind fun t194 => (if (!(t88 == t194)) = true then ((proof_Clash t88 t194).bind fun t203 => some (.inr (.inl (t88, t194, t203)))) else (if (decide ((1 : Int) < (lenI x50))) = true then ((proof_pair (proof_item k) x50).bind fun t211 => ((node_Inner_Item t211).bind fun t216 => ((proof_sides x50 t216.len).bind fun t222 => ((bits_Bit a1 t216.len).bind fun t233 => (if (t233 == (1 : Int)) = true then some (.inl ((wrap64 (x49 - (1 : Int))), t222.2)) else some (.inl ((wrap64 (x49 - (1 : Int))), t222.1))))))) else some (.inl ((wrap64 (x49 - (1 : Int))), x50)))))))))) else (if (decide ((0 : Int) < (lenI t17.1))) = true then some (.inr (.inr (x49, x50))) else (if ((lenI x50) == (0 : Int)) = true then (if (!(([18] : List UInt8) == ([18] : List UInt8))) = true then ((proof_Clash ([18] : List UInt8) ([18] : List UInt8)).bind fun t249 => some (.inr (.inl (([18] : List UInt8), ([18] : List UInt8), t249)))) else (if (decide ((1 : Int) < (lenI x50))) = true then ((proof_pair (proof_item k) x50).bind fun t257 => ((node_Inner_Item t257).bind fun t262 => ((proof_sides x50 t262.len).bind fun t268 => ((bits_Bit a1 t262.len).bind fun t279 => (if (t279 == (1 : Int)) = true then some (.inl ((wrap64 (x49 - (1 : Int))), t268.2)) else some (.inl ((wrap64 (x49 - (1 : Int))), t268.1))))))) else some (.inl ((wrap64 (x49 - (1 : Int))), x50)))) else (if ((lenI x50) == (1 : Int)) = true then ((req ((0 : Int) ≤ (0 : Int) ∧ (0 : Int) < lenI x50)).bind fun _ => ((proof_Summed (Nd.leaf (getI x50 (0 : Int)))).bind fun t292 => (if (!(([18] : List UInt8) == t292)) = true then ((proof_Clash ([18] : List UInt8) t292).bind fun t301 => some (.inr (.inl (([18] : List UInt8), t292, t301)))) else (if (decide ((1 : Int) < (lenI x50))) = true then ((proof_pair (proof_item k) x50).bind fun t309 => ((node_Inner_Item t309).bind fun t314 => ((proof_sides x50 t314.len).bind fun t320 => ((bits_Bit a1 t314.len).bind fun t331 => (if (t331 == (1 : Int)) = true then some (.inl ((wrap64 (x49 - (1 : Int))), t320.2)) else some (.inl ((wrap64 (x49 - (1 : Int))), t320.1))))))) else some (.inl ((wrap64 (x49 - (1 : Int))), x50)))))) else ((proof_pair (proof_item k) x50).bind fun t337 => ((proof_Summed (Nd.inner t337)).bind fun t342 => (if (!(([18] : List UInt8) == t342)) = true then ((proof_Clash ([18] : List UInt8) t342).bind fun t351 => some (.inr (.inl (([18] : List UInt8), t342, t351)))) else (if (decide ((1 : Int) < (lenI x50))) = true then ((proof_pair (proof_item k) x50).bind fun t359 => ((node_Inner_Item t359).bind fun t364 => ((proof_sides x50 t364.len).bind fun t370 => ((bits_Bit a1 t364.len).bind fun t381 => (if (t381 == (1 : Int)) = true then some (.inl ((wrap64 (x49 - (1 : Int))), t370.2)) else some (.inl ((wrap64 (x49 - (1 : Int))), t370.1))))))) else some (.inl ((wrap64 (x49 - (1 : Int))), x50)))))))))) else some (.inr (.inr (x49, x50))))

def proof_Extract (k : Nat) (a0 : (List Leaf)) (a1 : Lab) (a2 : Proof) : Option (Str × Str × Bool) :=
 ((proof_sorted k a0).bind fun t9 => ((proof_Proof_Nodes a2 a1).bind fun t17 => ((if (t17.2 != (0 : Int)) = true then some true else ((patch_Of k t9).bind fun t29 => ((patch_Check t29).bind fun t36 => some (t36 != (0 : Int))))).bind fun b26 => (if b26 = true then some (([] : Str), ([] : Str), false) else ((iter (proof_Extract_s1 k a1 t17) ((wrap64 ((lenI t17.1) - (1 : Int))), t9)).bind fun b54 => (match b54 with | .inl r₀ => some r₀ | .inr (x49, x50) => some (([] : Str), ([] : Str), false)))))))

theorem proof_Extract_ok {S : Hp} (k : Nat) (a0 : (List Leaf)) (a1 : Lab) (a2 : Proof) {va0 : Value} (qa0 : Sls S va0 a0) {v1 : Value} (q2 : Sls S v1 a2.path) {r : Str × Str × Bool} (h : proof_Extract k a0 a1 a2 = some r) : Fn Tryz.prog 11 [va0, aggV [sL a1], aggV [sV (.int .i64 a2.end_), sL a2.leaf.label, sL a2.leaf.value, sV (.int .i64 a2.leaf.at_), sV (.int .i64 a2.a.len), sL a2.a.bits, sL a2.a.sum, sV (.int .i64 a2.a.at_), sV (.int .i64 a2.b.len), sL a2.b.bits, sL a2.b.sum, sV (.int .i64 a2.b.at_), sV v1]] S (fun v S' => v = .tuple #[strV r.1, strV r.2.1, .bool r.2.2]) := by
 unfold proof_Extract at h
 refine fo [.tmp 6, .tmp 7, .tmp 8] 98 Tryz.func11 Tryz.ntmps11 (fun o F Q hQ hN hret => ?_)
 refine sr (fun _ hK3 => ?_)
 refine st (OS.boxA (by decide) rfl (fun ad4 => ?_))
 refine st (OS.boxA (by decide) rfl (fun ad6 => ?_))
 refine an ?_
 refine an ?_
 refine an ?_
 refine nt hK3 ?_
 refine sr (fun _ hK8 => ?_)
 refine mv ?_
 obtain ⟨t9, wt9, h⟩ := bind_some' h
 refine st (cl fb42 (proof_sorted_ok k a0 qa0 wt9) (fun v10 S11 e12 z13 => ?_))
 replace qa0 := qa0.up e12
 replace q2 := q2.up e12
 have q15 := z13
 refine an ?_
 refine nt hK8 ?_
 refine sr (fun _ hK16 => ?_)
 refine lb 0 0 13 [sV (.int .i64 a2.end_), sL a2.leaf.label, sL a2.leaf.value, sV (.int .i64 a2.leaf.at_), sV (.int .i64 a2.a.len), sL a2.a.bits, sL a2.a.sum, sV (.int .i64 a2.a.at_), sV (.int .i64 a2.b.len), sL a2.b.bits, sL a2.b.sum, sV (.int .i64 a2.b.at_), sV v1] row34 ?_
 refine lb 1 0 1 [sL a1] row23 ?_
 obtain ⟨t17, wt17, h⟩ := bind_some' h
 refine st (cl fb14 (proof_Proof_Nodes_ok a2 a1 q2 wt17) (fun v18 S19 e20 z21 => ?_))
 replace qa0 := qa0.up e20
 replace q2 := q2.up e20
 replace q15 := q15.up e20
 obtain ⟨v22, rfl, q23⟩ := z21
 refine mv ?_
 refine vl (Y.extract _ rfl rfl) ?_
 refine vl (Y.extract _ rfl rfl) ?_
 refine an ?_
 refine an ?_
 refine nt hK16 ?_
 refine G.seq (fun _ hK24 => ?_)
 refine sr (fun _ hK25 => ?_)
 refine mv ?_
 refine vl (Y.neI rfl rfl) ?_
 refine mv ?_
 obtain ⟨b26, wb26, h⟩ := bind_some' h
 refine GO.joinB 5 33 (b26 = ·) (fun K28 hK28 => ?_) ?_
 ·replace h := wb26
  rcases Bool.eq_false_or_eq_true (t17.2 != (0 : Int)) with c27 | c27
  ·replace h := ite_t c27 h
   refine gf 28 c27 ?_
   refine gf 28 c27 ?_
   refine gf 28 c27 ?_
   refine gf 28 c27 ?_
   refine vl (Y.pickT _ c27 rfl rfl) ?_
   refine GO.nil ?_
   refine p2 (p2 (p2 (p2 ?_)))
   exact hK28 _ _ l0 (Option.some.inj h).symm
  replace h := ite_f c27 h
  refine gv 28 c27 (Y.move rfl) ?_
  obtain ⟨t29, wt29, h⟩ := bind_some' h
  refine GO.onS 28 rfl (by decide) rfl c27 (cl fb44 (patch_Of_ok k t9 q15 wt29) (fun v30 S31 e32 z33 => ?_))
  replace qa0 := qa0.up e32
  replace q2 := q2.up e32
  replace q15 := q15.up e32
  replace q23 := q23.up e32
  have q35 := z33
  obtain ⟨t36, wt36, h⟩ := bind_some' h
  refine GO.onS 28 rfl (by decide) rfl c27 (cl fb43 (patch_Check_ok t29 q35 wt36) (fun v37 S38 e39 z40 => ?_))
  replace qa0 := qa0.up e39
  replace q2 := q2.up e39
  replace q15 := q15.up e39
  replace q23 := q23.up e39
  replace q35 := q35.up e39
  obtain rfl := z40
  refine gv 28 c27 (Y.neI rfl rfl) ?_
  refine vl (Y.pickF _ c27 rfl rfl) ?_
  refine GO.nil ?_
  refine p2 (p2 (p2 (p2 ?_)))
  exact hK28 _ _ (l2 e32 e39) (Option.some.inj h).symm
 rintro _ S41 e42 rfl
 replace qa0 := qa0.up e42
 replace q2 := q2.up e42
 replace q15 := q15.up e42
 replace q23 := q23.up e42
 refine nt hK25 ?_
 refine G.cond _ rfl (fun c43 => ?_) (fun c43 => ?_)
 ·replace h := ite_t c43 h
  refine sr (fun _ hK44 => ?_)
  refine an ?_
  refine an ?_
  refine an ?_
  refine nt hK44 ?_
  refine G.ret ?_
  obtain rfl := Option.some.inj h
  exact hret _ _ _ _ 2 (l2 e12 (l2 e20 e42)) (.cons (.tmp rfl) (.cons (.tmp rfl) (.cons (.tmp rfl) .nil))) rfl rfl
 replace h := ite_f c43 h
 refine sk hK24 ?_
 refine G.seq (fun _ hK45 => ?_)
 refine sr (fun _ hK46 => ?_)
 refine mv ?_
 refine vl (Y.lenS rfl q23 slc55) ?_
 refine vl (Y.subI rfl rfl) ?_
 refine an ?_
 refine nt hK46 ?_
 refine G.block ?_
 obtain ⟨b54, wb54, ho55⟩ := bind_some' h
 refine G.keep [12, 10, 9, 4] rfl ?_
 refine G.loopK (proof_Extract_s1 k a1 t17) (fun s₀ E' S' L' => match s₀ with | (x49, x50) => S41.le S' ∧ ∃ (v51 : Value), Sls S' v51 x50 ∧ E' = [(12, .int .i64 x49), (10, v22), (9, v51), (4, .pointer (some ⟨ad4, 0, none⟩))] ∧ Blk ad6 [sV (.int .i64 a2.end_), sL a2.leaf.label, sL a2.leaf.value, sV (.int .i64 a2.leaf.at_), sV (.int .i64 a2.a.len), sL a2.a.bits, sL a2.a.sum, sV (.int .i64 a2.a.at_), sV (.int .i64 a2.b.len), sL a2.b.bits, sL a2.b.sum, sV (.int .i64 a2.b.at_), sV v1] :: Blk ad4 [sL a1] :: F = L') b54 0 (fun E₀ S₀ L₀ => ∃ (x49 : Int) (x50 : (List Leaf)) (v51 : Value), S41.le S₀ ∧ b54 = .inr (x49, x50) ∧ Sls S₀ v51 x50 ∧ E₀ = [] ∧ Blk ad6 [sV (.int .i64 a2.end_), sL a2.leaf.label, sL a2.leaf.value, sV (.int .i64 a2.leaf.at_), sV (.int .i64 a2.a.len), sL a2.a.bits, sL a2.a.sum, sV (.int .i64 a2.a.at_), sV (.int .i64 a2.b.len), sL a2.b.bits, sL a2.b.sum, sV (.int .i64 a2.b.at_), sV v1] :: Blk ad4 [sL a1] :: F = L₀) wb54 ?_ ?_ ?_
 ·rintro _ S387 _ ⟨x49, x50, v51, e388, rfl, q52, rfl, rfl⟩
  have h := ho55; clear ho55
  try dsimp only at h
  replace q2 := q2.up e388
  refine GX.exit_block ?_
  refine GX.then hK45 ?_
  refine sr (fun _ hK389 => ?_)
  refine an ?_
  refine an ?_
  refine an ?_
  refine nt hK389 ?_
  refine G.ret ?_
  obtain rfl := Option.some.inj h
  exact hret _ _ _ _ 2 (l2 e12 (l2 e20 (l2 e42 e388))) (.cons (.tmp rfl) (.cons (.tmp rfl) (.cons (.tmp rfl) .nil))) rfl rfl
 ·exact ⟨Hp.le_refl _, v10, q15, rfl, rfl⟩
 rintro ⟨x49, x50⟩ _ S47 _ ⟨e48, v51, q52, rfl, rfl⟩ out1 h hf1 K1 hK1 hx53
 rw [proof_Extract_s1] at h
 replace q23 := q23.up e48
 replace q2 := q2.up e48
 refine G.seq (fun _ hK56 => ?_)
 refine sr (fun _ hK57 => ?_)
 refine mv ?_
 refine vl (Y.geI rfl rfl) ?_
 refine nt hK57 ?_
 refine G.cond _ rfl (fun c58 => ?_) (fun c58 => ?_)
 ·replace h := ite_t c58 h
  refine sk hK56 ?_
  refine G.seq (fun _ hK59 => ?_)
  refine G.block ?_
  refine G.seq (fun _ hK60 => ?_)
  refine G.cut (fun E₀ S₀ L₀ => ∃ (v64 : Value) (v62 : Value), S47.le S₀ ∧ E₀ = [(14, strV ([18] : List UInt8)), (13, strV ([18] : List UInt8)), (12, .int .i64 x49), (10, v22), (9, v51), (4, .pointer (some ⟨ad4, 0, none⟩))] ∧ Rw v64 ([18] : List UInt8) :: Rw v62 ([18] : List UInt8) :: Blk ad6 [sV (.int .i64 a2.end_), sL a2.leaf.label, sL a2.leaf.value, sV (.int .i64 a2.leaf.at_), sV (.int .i64 a2.a.len), sL a2.a.bits, sL a2.a.sum, sV (.int .i64 a2.a.at_), sV (.int .i64 a2.b.len), sL a2.b.bits, sL a2.b.sum, sV (.int .i64 a2.b.at_), sV v1] :: Blk ad4 [sL a1] :: F = L₀) (fun K61 hK61 => ?_) ?_
  ·refine G.drawN 6 mixed (by kernel_rfl) ?_
   refine GDr.any [0, 2] (by kernel_rfl) rfl (AllR.two ?_ ?_)
   ·refine n1 rfl (OS.buildSliceE ([18] : List UInt8) (by decide) el102 rfl (Nat.le_of_ble_eq_true rfl) rfl ⟨rfl, rfl⟩ (fun v66 => ⟨⟨[_], (.same .refl), l0⟩, ?_⟩))
    refine GDr.any [1, 2] (by kernel_rfl) rfl (AllR.two ?_ ?_)
    ·refine n1 rfl (OS.val (by decide) (Y.convBS rfl (Rw.bsrc (k := 0 ) rfl) byt102 sty9) ⟨⟨[_], (.same .refl), l0⟩, ?_⟩)
     refine tn 4 rfl hQ (fun _ _ _ => Y.assign rfl) ?_
     refine g1 2 ?_
     refine n1 rfl (OS.buildSliceE ([18] : List UInt8) (by decide) el102 rfl (Nat.le_of_ble_eq_true rfl) rfl ⟨rfl, rfl⟩ (fun v68 => ⟨⟨[_, _], (.same (.same .refl)), l0⟩, ?_⟩))
     refine g1 3 ?_
     refine n1 rfl (OS.val (by decide) (Y.convBS rfl (Rw.bsrc (k := 0 ) rfl) byt102 sty9) ⟨⟨[_, _], (.same (.same .refl)), l0⟩, ?_⟩)
     refine tn 5 rfl hQ (fun _ _ _ => Y.assign rfl) ?_
     refine dn ?_
     refine GX.keep [14, 13, 12, 10, 9, 4] rfl ?_
     exact hK61 _ _ _ ⟨v68, v66, l0, rfl, rfl⟩
    refine n1 rfl (OS.buildSliceE ([18] : List UInt8) (by decide) el102 rfl (Nat.le_of_ble_eq_true rfl) rfl ⟨rfl, rfl⟩ (fun v70 => ⟨⟨[_, _], (.same (.same .refl)), l0⟩, ?_⟩))
    refine GDr.any [1, 3] (by kernel_rfl) rfl (AllR.two ?_ ?_)
    ·refine n1 rfl (OS.val (by decide) (Y.convBS rfl (Rw.bsrc (k := 1 ) rfl) byt102 sty9) ⟨⟨[_, _], (.same (.same .refl)), l0⟩, ?_⟩)
     refine tn 4 rfl hQ (fun _ _ _ => Y.assign rfl) ?_
     refine g1 3 ?_
     refine n1 rfl (OS.val (by decide) (Y.convBS rfl (Rw.bsrc (k := 0 ) rfl) byt102 sty9) ⟨⟨[_, _], (.same (.same .refl)), l0⟩, ?_⟩)
     refine tn 5 rfl hQ (fun _ _ _ => Y.assign rfl) ?_
     refine dn ?_
     refine GX.keep [14, 13, 12, 10, 9, 4] rfl ?_
     exact hK61 _ _ _ ⟨v70, v66, l0, rfl, rfl⟩
    refine n1 rfl (OS.val (by decide) (Y.convBS rfl (Rw.bsrc (k := 0 ) rfl) byt102 sty9) ⟨⟨[_, _], (.same (.same .refl)), l0⟩, ?_⟩)
    refine g1 1 ?_
    refine n1 rfl (OS.val (by decide) (Y.convBS rfl (Rw.bsrc (k := 1 ) rfl) byt102 sty9) ⟨⟨[_, _], (.same (.same .refl)), l0⟩, ?_⟩)
    refine tn 4 rfl hQ (fun _ _ _ => Y.assign rfl) ?_
    refine tn 5 rfl hQ (fun _ _ _ => Y.assign rfl) ?_
    refine dn ?_
    refine GX.keep [14, 13, 12, 10, 9, 4] rfl ?_
    exact hK61 _ _ _ ⟨v70, v66, l0, rfl, rfl⟩
   refine n1 rfl (OS.buildSliceE ([18] : List UInt8) (by decide) el102 rfl (Nat.le_of_ble_eq_true rfl) rfl ⟨rfl, rfl⟩ (fun v72 => ⟨⟨[_], (.same .refl), l0⟩, ?_⟩))
   refine GDr.any [0, 3] (by kernel_rfl) rfl (AllR.two ?_ ?_)
   ·refine n1 rfl (OS.buildSliceE ([18] : List UInt8) (by decide) el102 rfl (Nat.le_of_ble_eq_true rfl) rfl ⟨rfl, rfl⟩ (fun v74 => ⟨⟨[_, _], (.same (.same .refl)), l0⟩, ?_⟩))
    refine GDr.any [1, 3] (by kernel_rfl) rfl (AllR.two ?_ ?_)
    ·refine n1 rfl (OS.val (by decide) (Y.convBS rfl (Rw.bsrc (k := 0 ) rfl) byt102 sty9) ⟨⟨[_, _], (.same (.same .refl)), l0⟩, ?_⟩)
     refine tn 4 rfl hQ (fun _ _ _ => Y.assign rfl) ?_
     refine g1 3 ?_
     refine n1 rfl (OS.val (by decide) (Y.convBS rfl (Rw.bsrc (k := 1 ) rfl) byt102 sty9) ⟨⟨[_, _], (.same (.same .refl)), l0⟩, ?_⟩)
     refine tn 5 rfl hQ (fun _ _ _ => Y.assign rfl) ?_
     refine dn ?_
     refine GX.keep [14, 13, 12, 10, 9, 4] rfl ?_
     refine GX.perm (.trans (.swap _ _ _) (.cons _ (.refl _))) ?_
     exact hK61 _ _ _ ⟨v72, v74, l0, rfl, rfl⟩
    refine n1 rfl (OS.val (by decide) (Y.convBS rfl (Rw.bsrc (k := 1 ) rfl) byt102 sty9) ⟨⟨[_, _], (.same (.same .refl)), l0⟩, ?_⟩)
    refine g1 1 ?_
    refine n1 rfl (OS.val (by decide) (Y.convBS rfl (Rw.bsrc (k := 0 ) rfl) byt102 sty9) ⟨⟨[_, _], (.same (.same .refl)), l0⟩, ?_⟩)
    refine tn 4 rfl hQ (fun _ _ _ => Y.assign rfl) ?_
    refine tn 5 rfl hQ (fun _ _ _ => Y.assign rfl) ?_
    refine dn ?_
    refine GX.keep [14, 13, 12, 10, 9, 4] rfl ?_
    refine GX.perm (.trans (.swap _ _ _) (.cons _ (.refl _))) ?_
    exact hK61 _ _ _ ⟨v72, v74, l0, rfl, rfl⟩
   refine n1 rfl (OS.val (by decide) (Y.convBS rfl (Rw.bsrc (k := 0 ) rfl) byt102 sty9) ⟨⟨[_], (.same .refl), l0⟩, ?_⟩)
   refine g1 0 ?_
   refine n1 rfl (OS.buildSliceE ([18] : List UInt8) (by decide) el102 rfl (Nat.le_of_ble_eq_true rfl) rfl ⟨rfl, rfl⟩ (fun v76 => ⟨⟨[_, _], (.same (.same .refl)), l0⟩, ?_⟩))
   refine g1 1 ?_
   refine n1 rfl (OS.val (by decide) (Y.convBS rfl (Rw.bsrc (k := 0 ) rfl) byt102 sty9) ⟨⟨[_, _], (.same (.same .refl)), l0⟩, ?_⟩)
   refine tn 4 rfl hQ (fun _ _ _ => Y.assign rfl) ?_
   refine tn 5 rfl hQ (fun _ _ _ => Y.assign rfl) ?_
   refine dn ?_
   refine GX.keep [14, 13, 12, 10, 9, 4] rfl ?_
   refine GX.perm (.trans (.swap _ _ _) (.cons _ (.refl _))) ?_
   exact hK61 _ _ _ ⟨v72, v76, l0, rfl, rfl⟩
  rintro _ S78 _ ⟨v64, v62, e79, rfl, rfl⟩
  replace q23 := q23.up e79
  replace q52 := q52.up e79
  replace q2 := q2.up e79
  refine GX.then hK60 ?_
  refine G.seq (fun _ hK80 => ?_)
  refine sr (fun _ hK81 => ?_)
  refine mv ?_
  refine vl (Y.geI rfl rfl) ?_
  refine nt hK81 ?_
  refine G.cond _ rfl (fun c82 => ?_) (fun c82 => ?_)
  ·replace h := ite_t c82 h
   refine G.region ?_
   refine mv ?_
   refine mv ?_
   obtain ⟨g83, h⟩ := req_bind h
   obtain ⟨ad84, p85, z86, q87⟩ := Sls.at q23 g83
   refine vl (Y.idxS rfl z86 rfl slc55 g83) ?_
   refine vl (Y.loadSV _ rfl (At.val (At.part q87 0 1 [sV (ndV (getI t17.1 x49))] rfl rfl)) one63) ?_
   obtain ⟨t88, wt88, h⟩ := bind_some' h
   refine st (cl fb16 (proof_Summed_ok (getI t17.1 x49) wt88) (fun v89 S90 e91 z92 => ?_))
   replace q23 := q23.up e91
   replace q52 := q52.up e91
   replace q87 := q87.up e91
   replace q2 := q2.up e91
   obtain rfl := z92
   refine an ?_
   refine nt hK80 ?_
   refine G.seq (fun _ hK93 => ?_)
   refine sr (fun _ hK94 => ?_)
   refine mv ?_
   refine vl (Y.lenS rfl q52 slc35) ?_
   refine nt hK94 ?_
   refine G.block ?_
   refine sr (fun _ hK95 => ?_)
   refine vl (Y.eqI rfl rfl) ?_
   refine an ?_
   refine nt hK95 ?_
   refine G.cond _ rfl (fun c96 => ?_) (fun c96 => ?_)
   ·replace h := ite_t c96 h
    refine G.skip ?_
    refine GX.normal_block ?_
    refine GX.then hK93 ?_
    refine G.seq (fun _ hK97 => ?_)
    refine sr (fun _ hK98 => ?_)
    refine mv ?_
    refine mv ?_
    refine vl (Y.neStr (a := t88) (b := ([18] : List UInt8)) rfl rfl) ?_
    refine nt hK98 ?_
    refine G.cond _ rfl (fun c99 => ?_) (fun c99 => ?_)
    ·replace h := ite_t c99 h
     refine sr (fun _ hK100 => ?_)
     refine mv ?_
     refine mv ?_
     refine mv ?_
     refine mv ?_
     obtain ⟨t101, wt101, h⟩ := bind_some' h
     refine st (cl fb17 (proof_Clash_ok t88 ([18] : List UInt8) wt101) (fun v102 S103 e104 z105 => ?_))
     replace q23 := q23.up e104
     replace q52 := q52.up e104
     replace q87 := q87.up e104
     replace q2 := q2.up e104
     obtain rfl := z105
     refine an ?_
     refine an ?_
     refine an ?_
     refine nt hK100 ?_
     refine G.ret ?_
     obtain rfl := Option.some.inj h
     obtain rfl := hf1 _ rfl
     have h := ho55
     try dsimp only at h
     obtain rfl := Option.some.inj h
     exact hret _ _ _ _ 4 (l2 e12 (l2 e20 (l2 e42 (l2 e48 (l2 e79 (l2 e91 e104)))))) (.cons (.tmp rfl) (.cons (.tmp rfl) (.cons (.tmp rfl) .nil))) rfl rfl
    replace h := ite_f c99 h
    refine sk hK97 ?_
    refine sr (fun _ hK106 => ?_)
    refine mv ?_
    refine vl (Y.lenS rfl q52 slc35) ?_
    refine vl (Y.gtI rfl rfl) ?_
    refine nt hK106 ?_
    refine G.cond _ rfl (fun c107 => ?_) (fun c107 => ?_)
    ·replace h := ite_t c107 h
     refine sr (fun _ hK108 => ?_)
     refine mv ?_
     obtain ⟨t109, wt109, h⟩ := bind_some' h
     refine st (cl fb45 (proof_pair_ok (proof_item k) (fun S₁ e₁ a₁ v₁ q₁ r₁ h₁ => proof_item_ok k a₁ q₁ h₁) x50 q52 wt109) (fun v110 S111 e112 z113 => ?_))
     replace q23 := q23.up e112
     replace q52 := q52.up e112
     replace q87 := q87.up e112
     replace q2 := q2.up e112
     obtain rfl := z113
     obtain ⟨t114, wt114, h⟩ := bind_some' h
     refine st (cl fb46 (node_Inner_Item_ok t109 wt114) (fun v115 S116 e117 z118 => ?_))
     replace q23 := q23.up e117
     replace q52 := q52.up e117
     replace q87 := q87.up e117
     replace q2 := q2.up e117
     obtain rfl := z118
     refine vl (Y.field 0 2 [sV (.int .i64 t114.len), sL t114.bits] rfl ⟨_, _, Tryz.underlying29, rfl, rfl, rfl⟩ rfl rfl row27 (by kernel_rfl)) ?_
     refine vl (Y.fieldV 0 _ rfl ⟨_, _, Tryz.underlying27, rfl, rfl, rfl⟩ rfl rfl one3) ?_
     refine an ?_
     refine nt hK108 ?_
     refine sr (fun _ hK119 => ?_)
     refine mv ?_
     refine mv ?_
     obtain ⟨t120, wt120, h⟩ := bind_some' h
     refine st (cl fb47 (proof_sides_ok x50 t114.len q52 wt120) (fun v121 S122 e123 z124 => ?_))
     replace q23 := q23.up e123
     replace q52 := q52.up e123
     replace q87 := q87.up e123
     replace q2 := q2.up e123
     obtain ⟨v125, v127, rfl, q126, q128⟩ := z124
     refine mv ?_
     refine vl (Y.extract _ rfl rfl) ?_
     refine vl (Y.extract _ rfl rfl) ?_
     refine an ?_
     refine an ?_
     refine nt hK119 ?_
     refine sr (fun _ hK129 => ?_)
     refine mv ?_
     refine an ?_
     refine nt hK129 ?_
     refine sr (fun _ hK130 => ?_)
     refine lb 3 0 1 [sL a1] row23 ?_
     refine mv ?_
     obtain ⟨t131, wt131, h⟩ := bind_some' h
     refine st (cl fb48 (bits_Bit_ok a1 t114.len wt131) (fun v132 S133 e134 z135 => ?_))
     replace q23 := q23.up e134
     replace q126 := q126.up e134
     replace q87 := q87.up e134
     replace q52 := q52.up e134
     replace q128 := q128.up e134
     replace q2 := q2.up e134
     obtain rfl := z135
     refine vl (Y.eqI rfl rfl) ?_
     refine nt hK130 ?_
     refine G.cond _ rfl (fun c136 => ?_) (fun c136 => ?_)
     ·replace h := ite_t c136 h
      refine G.region ?_
      refine mv ?_
      refine an ?_
      refine GO.nil ?_
      refine GX.normal_block ?_
      refine GX.then hK59 ?_
      refine G.region ?_
      refine mv ?_
      refine vl (Y.subI rfl rfl) ?_
      refine an ?_
      refine GO.nil ?_
      obtain rfl := Option.some.inj h
      refine GX.keep [12, 10, 9, 4] rfl ?_
      refine GX.less 2 rfl ?_
      exact hK1 _ _ _ _ rfl ⟨(l2 e48 (l2 e79 (l2 e91 (l2 e112 (l2 e117 (l2 e123 e134)))))), v127, q128, rfl, rfl⟩
     replace h := ite_f c136 h
     refine G.skip ?_
     refine GX.normal_block ?_
     refine GX.then hK59 ?_
     refine G.region ?_
     refine mv ?_
     refine vl (Y.subI rfl rfl) ?_
     refine an ?_
     refine GO.nil ?_
     obtain rfl := Option.some.inj h
     refine GX.keep [12, 10, 9, 4] rfl ?_
     refine GX.less 2 rfl ?_
     exact hK1 _ _ _ _ rfl ⟨(l2 e48 (l2 e79 (l2 e91 (l2 e112 (l2 e117 (l2 e123 e134)))))), v125, q126, rfl, rfl⟩
    replace h := ite_f c107 h
    refine G.skip ?_
    refine GX.normal_block ?_
    refine GX.then hK59 ?_
    refine G.region ?_
    refine mv ?_
    refine vl (Y.subI rfl rfl) ?_
    refine an ?_
    refine GO.nil ?_
    obtain rfl := Option.some.inj h
    refine GX.keep [12, 10, 9, 4] rfl ?_
    refine GX.less 2 rfl ?_
    exact hK1 _ _ _ _ rfl ⟨(l2 e48 (l2 e79 e91)), v51, q52, rfl, rfl⟩
   replace h := ite_f c96 h
   refine sr (fun _ hK137 => ?_)
   refine vl (Y.eqI rfl rfl) ?_
   refine an ?_
   refine nt hK137 ?_
   refine G.cond _ rfl (fun c138 => ?_) (fun c138 => ?_)
   ·replace h := ite_t c138 h
    refine G.region ?_
    refine mv ?_
    obtain ⟨g139, h⟩ := req_bind h
    obtain ⟨ad140, p141, z142, q143⟩ := Sls.at q52 g139
    refine vl (Y.idxS rfl z142 rfl slc35 g139) ?_
    refine vl (Y.loadS [sL ((getI x50 (0 : Int)).label), sL ((getI x50 (0 : Int)).value), sV (.int .i64 ((getI x50 (0 : Int)).at_))] rfl (At.part q143 0 3 _ rfl rfl) row25 (by kernel_rfl)) ?_
    refine vl (Y.mkI rfl stt25) ?_
    obtain ⟨t144, wt144, h⟩ := bind_some' h
    refine st (cl fb16 (proof_Summed_ok (Nd.leaf (getI x50 (0 : Int))) wt144) (fun v145 S146 e147 z148 => ?_))
    replace q23 := q23.up e147
    replace q52 := q52.up e147
    replace q87 := q87.up e147
    replace q143 := q143.up e147
    replace q2 := q2.up e147
    obtain rfl := z148
    refine an ?_
    refine GO.nil ?_
    refine GX.normal_block ?_
    refine GX.then hK93 ?_
    refine G.seq (fun _ hK149 => ?_)
    refine sr (fun _ hK150 => ?_)
    refine mv ?_
    refine mv ?_
    refine vl (Y.neStr (a := t88) (b := t144) rfl rfl) ?_
    refine nt hK150 ?_
    refine G.cond _ rfl (fun c151 => ?_) (fun c151 => ?_)
    ·replace h := ite_t c151 h
     refine sr (fun _ hK152 => ?_)
     refine mv ?_
     refine mv ?_
     refine mv ?_
     refine mv ?_
     obtain ⟨t153, wt153, h⟩ := bind_some' h
     refine st (cl fb17 (proof_Clash_ok t88 t144 wt153) (fun v154 S155 e156 z157 => ?_))
     replace q23 := q23.up e156
     replace q52 := q52.up e156
     replace q87 := q87.up e156
     replace q143 := q143.up e156
     replace q2 := q2.up e156
     obtain rfl := z157
     refine an ?_
     refine an ?_
     refine an ?_
     refine nt hK152 ?_
     refine G.ret ?_
     obtain rfl := Option.some.inj h
     obtain rfl := hf1 _ rfl
     have h := ho55
     try dsimp only at h
     obtain rfl := Option.some.inj h
     exact hret _ _ _ _ 4 (l2 e12 (l2 e20 (l2 e42 (l2 e48 (l2 e79 (l2 e91 (l2 e147 e156))))))) (.cons (.tmp rfl) (.cons (.tmp rfl) (.cons (.tmp rfl) .nil))) rfl rfl
    replace h := ite_f c151 h
    refine sk hK149 ?_
    refine sr (fun _ hK158 => ?_)
    refine mv ?_
    refine vl (Y.lenS rfl q52 slc35) ?_
    refine vl (Y.gtI rfl rfl) ?_
    refine nt hK158 ?_
    refine G.cond _ rfl (fun c159 => ?_) (fun c159 => ?_)
    ·replace h := ite_t c159 h
     refine sr (fun _ hK160 => ?_)
     refine mv ?_
     obtain ⟨t161, wt161, h⟩ := bind_some' h
     refine st (cl fb45 (proof_pair_ok (proof_item k) (fun S₁ e₁ a₁ v₁ q₁ r₁ h₁ => proof_item_ok k a₁ q₁ h₁) x50 q52 wt161) (fun v162 S163 e164 z165 => ?_))
     replace q23 := q23.up e164
     replace q52 := q52.up e164
     replace q87 := q87.up e164
     replace q143 := q143.up e164
     replace q2 := q2.up e164
     obtain rfl := z165
     obtain ⟨t166, wt166, h⟩ := bind_some' h
     refine st (cl fb46 (node_Inner_Item_ok t161 wt166) (fun v167 S168 e169 z170 => ?_))
     replace q23 := q23.up e169
     replace q52 := q52.up e169
     replace q87 := q87.up e169
     replace q143 := q143.up e169
     replace q2 := q2.up e169
     obtain rfl := z170
     refine vl (Y.field 0 2 [sV (.int .i64 t166.len), sL t166.bits] rfl ⟨_, _, Tryz.underlying29, rfl, rfl, rfl⟩ rfl rfl row27 (by kernel_rfl)) ?_
     refine vl (Y.fieldV 0 _ rfl ⟨_, _, Tryz.underlying27, rfl, rfl, rfl⟩ rfl rfl one3) ?_
     refine an ?_
     refine nt hK160 ?_
     refine sr (fun _ hK171 => ?_)
     refine mv ?_
     refine mv ?_
     obtain ⟨t172, wt172, h⟩ := bind_some' h
     refine st (cl fb47 (proof_sides_ok x50 t166.len q52 wt172) (fun v173 S174 e175 z176 => ?_))
     replace q23 := q23.up e175
     replace q52 := q52.up e175
     replace q87 := q87.up e175
     replace q143 := q143.up e175
     replace q2 := q2.up e175
     obtain ⟨v177, v179, rfl, q178, q180⟩ := z176
     refine mv ?_
     refine vl (Y.extract _ rfl rfl) ?_
     refine vl (Y.extract _ rfl rfl) ?_
     refine an ?_
     refine an ?_
     refine nt hK171 ?_
     refine sr (fun _ hK181 => ?_)
     refine mv ?_
     refine an ?_
     refine nt hK181 ?_
     refine sr (fun _ hK182 => ?_)
     refine lb 3 0 1 [sL a1] row23 ?_
     refine mv ?_
     obtain ⟨t183, wt183, h⟩ := bind_some' h
     refine st (cl fb48 (bits_Bit_ok a1 t166.len wt183) (fun v184 S185 e186 z187 => ?_))
     replace q23 := q23.up e186
     replace q178 := q178.up e186
     replace q87 := q87.up e186
     replace q52 := q52.up e186
     replace q143 := q143.up e186
     replace q180 := q180.up e186
     replace q2 := q2.up e186
     obtain rfl := z187
     refine vl (Y.eqI rfl rfl) ?_
     refine nt hK182 ?_
     refine G.cond _ rfl (fun c188 => ?_) (fun c188 => ?_)
     ·replace h := ite_t c188 h
      refine G.region ?_
      refine mv ?_
      refine an ?_
      refine GO.nil ?_
      refine GX.normal_block ?_
      refine GX.then hK59 ?_
      refine G.region ?_
      refine mv ?_
      refine vl (Y.subI rfl rfl) ?_
      refine an ?_
      refine GO.nil ?_
      obtain rfl := Option.some.inj h
      refine GX.keep [12, 10, 9, 4] rfl ?_
      refine GX.less 2 rfl ?_
      exact hK1 _ _ _ _ rfl ⟨(l2 e48 (l2 e79 (l2 e91 (l2 e147 (l2 e164 (l2 e169 (l2 e175 e186))))))), v179, q180, rfl, rfl⟩
     replace h := ite_f c188 h
     refine G.skip ?_
     refine GX.normal_block ?_
     refine GX.then hK59 ?_
     refine G.region ?_
     refine mv ?_
     refine vl (Y.subI rfl rfl) ?_
     refine an ?_
     refine GO.nil ?_
     obtain rfl := Option.some.inj h
     refine GX.keep [12, 10, 9, 4] rfl ?_
     refine GX.less 2 rfl ?_
     exact hK1 _ _ _ _ rfl ⟨(l2 e48 (l2 e79 (l2 e91 (l2 e147 (l2 e164 (l2 e169 (l2 e175 e186))))))), v177, q178, rfl, rfl⟩
    replace h := ite_f c159 h
    refine G.skip ?_
    refine GX.normal_block ?_
    refine GX.then hK59 ?_
    refine G.region ?_
    refine mv ?_
    refine vl (Y.subI rfl rfl) ?_
    refine an ?_
    refine GO.nil ?_
    obtain rfl := Option.some.inj h
    refine GX.keep [12, 10, 9, 4] rfl ?_
    refine GX.less 2 rfl ?_
    exact hK1 _ _ _ _ rfl ⟨(l2 e48 (l2 e79 (l2 e91 e147))), v51, q52, rfl, rfl⟩
   replace h := ite_f c138 h
   refine G.region ?_
   refine mv ?_
   obtain ⟨t189, wt189, h⟩ := bind_some' h
   refine st (cl fb45 (proof_pair_ok (proof_item k) (fun S₁ e₁ a₁ v₁ q₁ r₁ h₁ => proof_item_ok k a₁ q₁ h₁) x50 q52 wt189) (fun v190 S191 e192 z193 => ?_))
   replace q23 := q23.up e192
   replace q52 := q52.up e192
   replace q87 := q87.up e192
   replace q2 := q2.up e192
   obtain rfl := z193
   refine vl (Y.mkI rfl stt31) ?_
   obtain ⟨t194, wt194, h⟩ := bind_some' h
   refine st (cl fb16 (proof_Summed_ok (Nd.inner t189) wt194) (fun v195 S196 e197 z198 => ?_))
   replace q23 := q23.up e197
   replace q52 := q52.up e197
   replace q87 := q87.up e197
   replace q2 := q2.up e197
   obtain rfl := z198
   refine an ?_
   refine GO.nil ?_
   refine GX.normal_block ?_
   refine GX.then hK93 ?_
   refine G.seq (fun _ hK199 => ?_)
   refine sr (fun _ hK200 => ?_)
   refine mv ?_
   refine mv ?_
   refine vl (Y.neStr (a := t88) (b := t194) rfl rfl) ?_
   refine nt hK200 ?_
   refine G.cond _ rfl (fun c201 => ?_) (fun c201 => ?_)
   ·replace h := ite_t c201 h
    refine sr (fun _ hK202 => ?_)
    refine mv ?_
    refine mv ?_
    refine mv ?_
    refine mv ?_
    obtain ⟨t203, wt203, h⟩ := bind_some' h
    refine st (cl fb17 (proof_Clash_ok t88 t194 wt203) (fun v204 S205 e206 z207 => ?_))
    replace q23 := q23.up e206
    replace q52 := q52.up e206
    replace q87 := q87.up e206
    replace q2 := q2.up e206
    obtain rfl := z207
    refine an ?_
    refine an ?_
    refine an ?_
    refine nt hK202 ?_
    refine G.ret ?_
    obtain rfl := Option.some.inj h
    obtain rfl := hf1 _ rfl
    have h := ho55
    try dsimp only at h
    obtain rfl := Option.some.inj h
    exact hret _ _ _ _ 4 (l2 e12 (l2 e20 (l2 e42 (l2 e48 (l2 e79 (l2 e91 (l2 e192 (l2 e197 e206)))))))) (.cons (.tmp rfl) (.cons (.tmp rfl) (.cons (.tmp rfl) .nil))) rfl rfl
   replace h := ite_f c201 h
   refine sk hK199 ?_
   refine sr (fun _ hK208 => ?_)
   refine mv ?_
   refine vl (Y.lenS rfl q52 slc35) ?_
   refine vl (Y.gtI rfl rfl) ?_
   refine nt hK208 ?_
   refine G.cond _ rfl (fun c209 => ?_) (fun c209 => ?_)
   ·replace h := ite_t c209 h
    refine sr (fun _ hK210 => ?_)
    refine mv ?_
    obtain ⟨t211, wt211, h⟩ := bind_some' h
    refine st (cl fb45 (proof_pair_ok (proof_item k) (fun S₁ e₁ a₁ v₁ q₁ r₁ h₁ => proof_item_ok k a₁ q₁ h₁) x50 q52 wt211) (fun v212 S213 e214 z215 => ?_))
    replace q23 := q23.up e214
    replace q52 := q52.up e214
    replace q87 := q87.up e214
    replace q2 := q2.up e214
    obtain rfl := z215
    obtain ⟨t216, wt216, h⟩ := bind_some' h
    refine st (cl fb46 (node_Inner_Item_ok t211 wt216) (fun v217 S218 e219 z220 => ?_))
    replace q23 := q23.up e219
    replace q52 := q52.up e219
    replace q87 := q87.up e219
    replace q2 := q2.up e219
    obtain rfl := z220
    refine vl (Y.field 0 2 [sV (.int .i64 t216.len), sL t216.bits] rfl ⟨_, _, Tryz.underlying29, rfl, rfl, rfl⟩ rfl rfl row27 (by kernel_rfl)) ?_
    refine vl (Y.fieldV 0 _ rfl ⟨_, _, Tryz.underlying27, rfl, rfl, rfl⟩ rfl rfl one3) ?_
    refine an ?_
    refine nt hK210 ?_
    refine sr (fun _ hK221 => ?_)
    refine mv ?_
    refine mv ?_
    obtain ⟨t222, wt222, h⟩ := bind_some' h
    refine st (cl fb47 (proof_sides_ok x50 t216.len q52 wt222) (fun v223 S224 e225 z226 => ?_))
    replace q23 := q23.up e225
    replace q52 := q52.up e225
    replace q87 := q87.up e225
    replace q2 := q2.up e225
    obtain ⟨v227, v229, rfl, q228, q230⟩ := z226
    refine mv ?_
    refine vl (Y.extract _ rfl rfl) ?_
    refine vl (Y.extract _ rfl rfl) ?_
    refine an ?_
    refine an ?_
    refine nt hK221 ?_
    refine sr (fun _ hK231 => ?_)
    refine mv ?_
    refine an ?_
    refine nt hK231 ?_
    refine sr (fun _ hK232 => ?_)
    refine lb 3 0 1 [sL a1] row23 ?_
    refine mv ?_
    obtain ⟨t233, wt233, h⟩ := bind_some' h
    refine st (cl fb48 (bits_Bit_ok a1 t216.len wt233) (fun v234 S235 e236 z237 => ?_))
    replace q23 := q23.up e236
    replace q228 := q228.up e236
    replace q87 := q87.up e236
    replace q52 := q52.up e236
    replace q230 := q230.up e236
    replace q2 := q2.up e236
    obtain rfl := z237
    refine vl (Y.eqI rfl rfl) ?_
    refine nt hK232 ?_
    refine G.cond _ rfl (fun c238 => ?_) (fun c238 => ?_)
    ·replace h := ite_t c238 h
     refine G.region ?_
     refine mv ?_
     refine an ?_
     refine GO.nil ?_
     refine GX.normal_block ?_
     refine GX.then hK59 ?_
     refine G.region ?_
     refine mv ?_
     refine vl (Y.subI rfl rfl) ?_
     refine an ?_
     refine GO.nil ?_
     obtain rfl := Option.some.inj h
     refine GX.keep [12, 10, 9, 4] rfl ?_
     refine GX.less 2 rfl ?_
     exact hK1 _ _ _ _ rfl ⟨(l2 e48 (l2 e79 (l2 e91 (l2 e192 (l2 e197 (l2 e214 (l2 e219 (l2 e225 e236)))))))), v229, q230, rfl, rfl⟩
    replace h := ite_f c238 h
    refine G.skip ?_
    refine GX.normal_block ?_
    refine GX.then hK59 ?_
    refine G.region ?_
    refine mv ?_
    refine vl (Y.subI rfl rfl) ?_
    refine an ?_
    refine GO.nil ?_
    obtain rfl := Option.some.inj h
    refine GX.keep [12, 10, 9, 4] rfl ?_
    refine GX.less 2 rfl ?_
    exact hK1 _ _ _ _ rfl ⟨(l2 e48 (l2 e79 (l2 e91 (l2 e192 (l2 e197 (l2 e214 (l2 e219 (l2 e225 e236)))))))), v227, q228, rfl, rfl⟩
   replace h := ite_f c209 h
   refine G.skip ?_
   refine GX.normal_block ?_
   refine GX.then hK59 ?_
   refine G.region ?_
   refine mv ?_
   refine vl (Y.subI rfl rfl) ?_
   refine an ?_
   refine GO.nil ?_
   obtain rfl := Option.some.inj h
   refine GX.keep [12, 10, 9, 4] rfl ?_
   refine GX.less 2 rfl ?_
   exact hK1 _ _ _ _ rfl ⟨(l2 e48 (l2 e79 (l2 e91 (l2 e192 e197)))), v51, q52, rfl, rfl⟩
  replace h := ite_f c82 h
  refine sr (fun _ hK239 => ?_)
  refine mv ?_
  refine vl (Y.lenS rfl q23 slc55) ?_
  refine vl (Y.gtI rfl rfl) ?_
  refine nt hK239 ?_
  refine G.cond _ rfl (fun c240 => ?_) (fun c240 => ?_)
  ·replace h := ite_t c240 h
   refine G.exit ?_
   refine GX.exit_then ?_
   refine GX.exit_pass (by decide) ?_
   refine GX.exit_then ?_
   obtain rfl := Option.some.inj h
   refine GX.keep [] rfl ?_
   refine GX.less 2 rfl ?_
   exact hx53 _ _ _ ⟨_, _, _, (l2 e48 e79), (hf1 _ rfl).symm, q52, rfl, rfl⟩
  replace h := ite_f c240 h
  refine sk hK80 ?_
  refine G.seq (fun _ hK241 => ?_)
  refine sr (fun _ hK242 => ?_)
  refine mv ?_
  refine vl (Y.lenS rfl q52 slc35) ?_
  refine nt hK242 ?_
  refine G.block ?_
  refine sr (fun _ hK243 => ?_)
  refine vl (Y.eqI rfl rfl) ?_
  refine an ?_
  refine nt hK243 ?_
  refine G.cond _ rfl (fun c244 => ?_) (fun c244 => ?_)
  ·replace h := ite_t c244 h
   refine G.skip ?_
   refine GX.normal_block ?_
   refine GX.then hK241 ?_
   refine G.seq (fun _ hK245 => ?_)
   refine sr (fun _ hK246 => ?_)
   refine mv ?_
   refine mv ?_
   refine vl (Y.neStr (a := ([18] : List UInt8)) (b := ([18] : List UInt8)) rfl rfl) ?_
   refine nt hK246 ?_
   refine G.cond _ rfl (fun c247 => ?_) (fun c247 => ?_)
   ·replace h := ite_t c247 h
    refine sr (fun _ hK248 => ?_)
    refine mv ?_
    refine mv ?_
    refine mv ?_
    refine mv ?_
    obtain ⟨t249, wt249, h⟩ := bind_some' h
    refine st (cl fb17 (proof_Clash_ok ([18] : List UInt8) ([18] : List UInt8) wt249) (fun v250 S251 e252 z253 => ?_))
    replace q23 := q23.up e252
    replace q52 := q52.up e252
    replace q2 := q2.up e252
    obtain rfl := z253
    refine an ?_
    refine an ?_
    refine an ?_
    refine nt hK248 ?_
    refine G.ret ?_
    obtain rfl := Option.some.inj h
    obtain rfl := hf1 _ rfl
    have h := ho55
    try dsimp only at h
    obtain rfl := Option.some.inj h
    exact hret _ _ _ _ 4 (l2 e12 (l2 e20 (l2 e42 (l2 e48 (l2 e79 e252))))) (.cons (.tmp rfl) (.cons (.tmp rfl) (.cons (.tmp rfl) .nil))) rfl rfl
   replace h := ite_f c247 h
   refine sk hK245 ?_
   refine sr (fun _ hK254 => ?_)
   refine mv ?_
   refine vl (Y.lenS rfl q52 slc35) ?_
   refine vl (Y.gtI rfl rfl) ?_
   refine nt hK254 ?_
   refine G.cond _ rfl (fun c255 => ?_) (fun c255 => ?_)
   ·replace h := ite_t c255 h
    refine sr (fun _ hK256 => ?_)
    refine mv ?_
    obtain ⟨t257, wt257, h⟩ := bind_some' h
    refine st (cl fb45 (proof_pair_ok (proof_item k) (fun S₁ e₁ a₁ v₁ q₁ r₁ h₁ => proof_item_ok k a₁ q₁ h₁) x50 q52 wt257) (fun v258 S259 e260 z261 => ?_))
    replace q23 := q23.up e260
    replace q52 := q52.up e260
    replace q2 := q2.up e260
    obtain rfl := z261
    obtain ⟨t262, wt262, h⟩ := bind_some' h
    refine st (cl fb46 (node_Inner_Item_ok t257 wt262) (fun v263 S264 e265 z266 => ?_))
    replace q23 := q23.up e265
    replace q52 := q52.up e265
    replace q2 := q2.up e265
    obtain rfl := z266
    refine vl (Y.field 0 2 [sV (.int .i64 t262.len), sL t262.bits] rfl ⟨_, _, Tryz.underlying29, rfl, rfl, rfl⟩ rfl rfl row27 (by kernel_rfl)) ?_
    refine vl (Y.fieldV 0 _ rfl ⟨_, _, Tryz.underlying27, rfl, rfl, rfl⟩ rfl rfl one3) ?_
    refine an ?_
    refine nt hK256 ?_
    refine sr (fun _ hK267 => ?_)
    refine mv ?_
    refine mv ?_
    obtain ⟨t268, wt268, h⟩ := bind_some' h
    refine st (cl fb47 (proof_sides_ok x50 t262.len q52 wt268) (fun v269 S270 e271 z272 => ?_))
    replace q23 := q23.up e271
    replace q52 := q52.up e271
    replace q2 := q2.up e271
    obtain ⟨v273, v275, rfl, q274, q276⟩ := z272
    refine mv ?_
    refine vl (Y.extract _ rfl rfl) ?_
    refine vl (Y.extract _ rfl rfl) ?_
    refine an ?_
    refine an ?_
    refine nt hK267 ?_
    refine sr (fun _ hK277 => ?_)
    refine mv ?_
    refine an ?_
    refine nt hK277 ?_
    refine sr (fun _ hK278 => ?_)
    refine lb 3 0 1 [sL a1] row23 ?_
    refine mv ?_
    obtain ⟨t279, wt279, h⟩ := bind_some' h
    refine st (cl fb48 (bits_Bit_ok a1 t262.len wt279) (fun v280 S281 e282 z283 => ?_))
    replace q23 := q23.up e282
    replace q274 := q274.up e282
    replace q52 := q52.up e282
    replace q276 := q276.up e282
    replace q2 := q2.up e282
    obtain rfl := z283
    refine vl (Y.eqI rfl rfl) ?_
    refine nt hK278 ?_
    refine G.cond _ rfl (fun c284 => ?_) (fun c284 => ?_)
    ·replace h := ite_t c284 h
     refine G.region ?_
     refine mv ?_
     refine an ?_
     refine GO.nil ?_
     refine GX.normal_block ?_
     refine GX.then hK59 ?_
     refine G.region ?_
     refine mv ?_
     refine vl (Y.subI rfl rfl) ?_
     refine an ?_
     refine GO.nil ?_
     obtain rfl := Option.some.inj h
     refine GX.keep [12, 10, 9, 4] rfl ?_
     refine GX.less 2 rfl ?_
     exact hK1 _ _ _ _ rfl ⟨(l2 e48 (l2 e79 (l2 e260 (l2 e265 (l2 e271 e282))))), v275, q276, rfl, rfl⟩
    replace h := ite_f c284 h
    refine G.skip ?_
    refine GX.normal_block ?_
    refine GX.then hK59 ?_
    refine G.region ?_
    refine mv ?_
    refine vl (Y.subI rfl rfl) ?_
    refine an ?_
    refine GO.nil ?_
    obtain rfl := Option.some.inj h
    refine GX.keep [12, 10, 9, 4] rfl ?_
    refine GX.less 2 rfl ?_
    exact hK1 _ _ _ _ rfl ⟨(l2 e48 (l2 e79 (l2 e260 (l2 e265 (l2 e271 e282))))), v273, q274, rfl, rfl⟩
   replace h := ite_f c255 h
   refine G.skip ?_
   refine GX.normal_block ?_
   refine GX.then hK59 ?_
   refine G.region ?_
   refine mv ?_
   refine vl (Y.subI rfl rfl) ?_
   refine an ?_
   refine GO.nil ?_
   obtain rfl := Option.some.inj h
   refine GX.keep [12, 10, 9, 4] rfl ?_
   refine GX.less 2 rfl ?_
   exact hK1 _ _ _ _ rfl ⟨(l2 e48 e79), v51, q52, rfl, rfl⟩
  replace h := ite_f c244 h
  refine sr (fun _ hK285 => ?_)
  refine vl (Y.eqI rfl rfl) ?_
  refine an ?_
  refine nt hK285 ?_
  refine G.cond _ rfl (fun c286 => ?_) (fun c286 => ?_)
  ·replace h := ite_t c286 h
   refine G.region ?_
   refine mv ?_
   obtain ⟨g287, h⟩ := req_bind h
   obtain ⟨ad288, p289, z290, q291⟩ := Sls.at q52 g287
   refine vl (Y.idxS rfl z290 rfl slc35 g287) ?_
   refine vl (Y.loadS [sL ((getI x50 (0 : Int)).label), sL ((getI x50 (0 : Int)).value), sV (.int .i64 ((getI x50 (0 : Int)).at_))] rfl (At.part q291 0 3 _ rfl rfl) row25 (by kernel_rfl)) ?_
   refine vl (Y.mkI rfl stt25) ?_
   obtain ⟨t292, wt292, h⟩ := bind_some' h
   refine st (cl fb16 (proof_Summed_ok (Nd.leaf (getI x50 (0 : Int))) wt292) (fun v293 S294 e295 z296 => ?_))
   replace q23 := q23.up e295
   replace q52 := q52.up e295
   replace q291 := q291.up e295
   replace q2 := q2.up e295
   obtain rfl := z296
   refine an ?_
   refine GO.nil ?_
   refine GX.normal_block ?_
   refine GX.then hK241 ?_
   refine G.seq (fun _ hK297 => ?_)
   refine sr (fun _ hK298 => ?_)
   refine mv ?_
   refine mv ?_
   refine vl (Y.neStr (a := ([18] : List UInt8)) (b := t292) rfl rfl) ?_
   refine nt hK298 ?_
   refine G.cond _ rfl (fun c299 => ?_) (fun c299 => ?_)
   ·replace h := ite_t c299 h
    refine sr (fun _ hK300 => ?_)
    refine mv ?_
    refine mv ?_
    refine mv ?_
    refine mv ?_
    obtain ⟨t301, wt301, h⟩ := bind_some' h
    refine st (cl fb17 (proof_Clash_ok ([18] : List UInt8) t292 wt301) (fun v302 S303 e304 z305 => ?_))
    replace q23 := q23.up e304
    replace q52 := q52.up e304
    replace q291 := q291.up e304
    replace q2 := q2.up e304
    obtain rfl := z305
    refine an ?_
    refine an ?_
    refine an ?_
    refine nt hK300 ?_
    refine G.ret ?_
    obtain rfl := Option.some.inj h
    obtain rfl := hf1 _ rfl
    have h := ho55
    try dsimp only at h
    obtain rfl := Option.some.inj h
    exact hret _ _ _ _ 4 (l2 e12 (l2 e20 (l2 e42 (l2 e48 (l2 e79 (l2 e295 e304)))))) (.cons (.tmp rfl) (.cons (.tmp rfl) (.cons (.tmp rfl) .nil))) rfl rfl
   replace h := ite_f c299 h
   refine sk hK297 ?_
   refine sr (fun _ hK306 => ?_)
   refine mv ?_
   refine vl (Y.lenS rfl q52 slc35) ?_
   refine vl (Y.gtI rfl rfl) ?_
   refine nt hK306 ?_
   refine G.cond _ rfl (fun c307 => ?_) (fun c307 => ?_)
   ·replace h := ite_t c307 h
    refine sr (fun _ hK308 => ?_)
    refine mv ?_
    obtain ⟨t309, wt309, h⟩ := bind_some' h
    refine st (cl fb45 (proof_pair_ok (proof_item k) (fun S₁ e₁ a₁ v₁ q₁ r₁ h₁ => proof_item_ok k a₁ q₁ h₁) x50 q52 wt309) (fun v310 S311 e312 z313 => ?_))
    replace q23 := q23.up e312
    replace q52 := q52.up e312
    replace q291 := q291.up e312
    replace q2 := q2.up e312
    obtain rfl := z313
    obtain ⟨t314, wt314, h⟩ := bind_some' h
    refine st (cl fb46 (node_Inner_Item_ok t309 wt314) (fun v315 S316 e317 z318 => ?_))
    replace q23 := q23.up e317
    replace q52 := q52.up e317
    replace q291 := q291.up e317
    replace q2 := q2.up e317
    obtain rfl := z318
    refine vl (Y.field 0 2 [sV (.int .i64 t314.len), sL t314.bits] rfl ⟨_, _, Tryz.underlying29, rfl, rfl, rfl⟩ rfl rfl row27 (by kernel_rfl)) ?_
    refine vl (Y.fieldV 0 _ rfl ⟨_, _, Tryz.underlying27, rfl, rfl, rfl⟩ rfl rfl one3) ?_
    refine an ?_
    refine nt hK308 ?_
    refine sr (fun _ hK319 => ?_)
    refine mv ?_
    refine mv ?_
    obtain ⟨t320, wt320, h⟩ := bind_some' h
    refine st (cl fb47 (proof_sides_ok x50 t314.len q52 wt320) (fun v321 S322 e323 z324 => ?_))
    replace q23 := q23.up e323
    replace q52 := q52.up e323
    replace q291 := q291.up e323
    replace q2 := q2.up e323
    obtain ⟨v325, v327, rfl, q326, q328⟩ := z324
    refine mv ?_
    refine vl (Y.extract _ rfl rfl) ?_
    refine vl (Y.extract _ rfl rfl) ?_
    refine an ?_
    refine an ?_
    refine nt hK319 ?_
    refine sr (fun _ hK329 => ?_)
    refine mv ?_
    refine an ?_
    refine nt hK329 ?_
    refine sr (fun _ hK330 => ?_)
    refine lb 3 0 1 [sL a1] row23 ?_
    refine mv ?_
    obtain ⟨t331, wt331, h⟩ := bind_some' h
    refine st (cl fb48 (bits_Bit_ok a1 t314.len wt331) (fun v332 S333 e334 z335 => ?_))
    replace q23 := q23.up e334
    replace q326 := q326.up e334
    replace q52 := q52.up e334
    replace q291 := q291.up e334
    replace q328 := q328.up e334
    replace q2 := q2.up e334
    obtain rfl := z335
    refine vl (Y.eqI rfl rfl) ?_
    refine nt hK330 ?_
    refine G.cond _ rfl (fun c336 => ?_) (fun c336 => ?_)
    ·replace h := ite_t c336 h
     refine G.region ?_
     refine mv ?_
     refine an ?_
     refine GO.nil ?_
     refine GX.normal_block ?_
     refine GX.then hK59 ?_
     refine G.region ?_
     refine mv ?_
     refine vl (Y.subI rfl rfl) ?_
     refine an ?_
     refine GO.nil ?_
     obtain rfl := Option.some.inj h
     refine GX.keep [12, 10, 9, 4] rfl ?_
     refine GX.less 2 rfl ?_
     exact hK1 _ _ _ _ rfl ⟨(l2 e48 (l2 e79 (l2 e295 (l2 e312 (l2 e317 (l2 e323 e334)))))), v327, q328, rfl, rfl⟩
    replace h := ite_f c336 h
    refine G.skip ?_
    refine GX.normal_block ?_
    refine GX.then hK59 ?_
    refine G.region ?_
    refine mv ?_
    refine vl (Y.subI rfl rfl) ?_
    refine an ?_
    refine GO.nil ?_
    obtain rfl := Option.some.inj h
    refine GX.keep [12, 10, 9, 4] rfl ?_
    refine GX.less 2 rfl ?_
    exact hK1 _ _ _ _ rfl ⟨(l2 e48 (l2 e79 (l2 e295 (l2 e312 (l2 e317 (l2 e323 e334)))))), v325, q326, rfl, rfl⟩
   replace h := ite_f c307 h
   refine G.skip ?_
   refine GX.normal_block ?_
   refine GX.then hK59 ?_
   refine G.region ?_
   refine mv ?_
   refine vl (Y.subI rfl rfl) ?_
   refine an ?_
   refine GO.nil ?_
   obtain rfl := Option.some.inj h
   refine GX.keep [12, 10, 9, 4] rfl ?_
   refine GX.less 2 rfl ?_
   exact hK1 _ _ _ _ rfl ⟨(l2 e48 (l2 e79 e295)), v51, q52, rfl, rfl⟩
  replace h := ite_f c286 h
  refine G.region ?_
  refine mv ?_
  obtain ⟨t337, wt337, h⟩ := bind_some' h
  refine st (cl fb45 (proof_pair_ok (proof_item k) (fun S₁ e₁ a₁ v₁ q₁ r₁ h₁ => proof_item_ok k a₁ q₁ h₁) x50 q52 wt337) (fun v338 S339 e340 z341 => ?_))
  replace q23 := q23.up e340
  replace q52 := q52.up e340
  replace q2 := q2.up e340
  obtain rfl := z341
  refine vl (Y.mkI rfl stt31) ?_
  obtain ⟨t342, wt342, h⟩ := bind_some' h
  refine st (cl fb16 (proof_Summed_ok (Nd.inner t337) wt342) (fun v343 S344 e345 z346 => ?_))
  replace q23 := q23.up e345
  replace q52 := q52.up e345
  replace q2 := q2.up e345
  obtain rfl := z346
  refine an ?_
  refine GO.nil ?_
  refine GX.normal_block ?_
  refine GX.then hK241 ?_
  refine G.seq (fun _ hK347 => ?_)
  refine sr (fun _ hK348 => ?_)
  refine mv ?_
  refine mv ?_
  refine vl (Y.neStr (a := ([18] : List UInt8)) (b := t342) rfl rfl) ?_
  refine nt hK348 ?_
  refine G.cond _ rfl (fun c349 => ?_) (fun c349 => ?_)
  ·replace h := ite_t c349 h
   refine sr (fun _ hK350 => ?_)
   refine mv ?_
   refine mv ?_
   refine mv ?_
   refine mv ?_
   obtain ⟨t351, wt351, h⟩ := bind_some' h
   refine st (cl fb17 (proof_Clash_ok ([18] : List UInt8) t342 wt351) (fun v352 S353 e354 z355 => ?_))
   replace q23 := q23.up e354
   replace q52 := q52.up e354
   replace q2 := q2.up e354
   obtain rfl := z355
   refine an ?_
   refine an ?_
   refine an ?_
   refine nt hK350 ?_
   refine G.ret ?_
   obtain rfl := Option.some.inj h
   obtain rfl := hf1 _ rfl
   have h := ho55
   try dsimp only at h
   obtain rfl := Option.some.inj h
   exact hret _ _ _ _ 4 (l2 e12 (l2 e20 (l2 e42 (l2 e48 (l2 e79 (l2 e340 (l2 e345 e354))))))) (.cons (.tmp rfl) (.cons (.tmp rfl) (.cons (.tmp rfl) .nil))) rfl rfl
  replace h := ite_f c349 h
  refine sk hK347 ?_
  refine sr (fun _ hK356 => ?_)
  refine mv ?_
  refine vl (Y.lenS rfl q52 slc35) ?_
  refine vl (Y.gtI rfl rfl) ?_
  refine nt hK356 ?_
  refine G.cond _ rfl (fun c357 => ?_) (fun c357 => ?_)
  ·replace h := ite_t c357 h
   refine sr (fun _ hK358 => ?_)
   refine mv ?_
   obtain ⟨t359, wt359, h⟩ := bind_some' h
   refine st (cl fb45 (proof_pair_ok (proof_item k) (fun S₁ e₁ a₁ v₁ q₁ r₁ h₁ => proof_item_ok k a₁ q₁ h₁) x50 q52 wt359) (fun v360 S361 e362 z363 => ?_))
   replace q23 := q23.up e362
   replace q52 := q52.up e362
   replace q2 := q2.up e362
   obtain rfl := z363
   obtain ⟨t364, wt364, h⟩ := bind_some' h
   refine st (cl fb46 (node_Inner_Item_ok t359 wt364) (fun v365 S366 e367 z368 => ?_))
   replace q23 := q23.up e367
   replace q52 := q52.up e367
   replace q2 := q2.up e367
   obtain rfl := z368
   refine vl (Y.field 0 2 [sV (.int .i64 t364.len), sL t364.bits] rfl ⟨_, _, Tryz.underlying29, rfl, rfl, rfl⟩ rfl rfl row27 (by kernel_rfl)) ?_
   refine vl (Y.fieldV 0 _ rfl ⟨_, _, Tryz.underlying27, rfl, rfl, rfl⟩ rfl rfl one3) ?_
   refine an ?_
   refine nt hK358 ?_
   refine sr (fun _ hK369 => ?_)
   refine mv ?_
   refine mv ?_
   obtain ⟨t370, wt370, h⟩ := bind_some' h
   refine st (cl fb47 (proof_sides_ok x50 t364.len q52 wt370) (fun v371 S372 e373 z374 => ?_))
   replace q23 := q23.up e373
   replace q52 := q52.up e373
   replace q2 := q2.up e373
   obtain ⟨v375, v377, rfl, q376, q378⟩ := z374
   refine mv ?_
   refine vl (Y.extract _ rfl rfl) ?_
   refine vl (Y.extract _ rfl rfl) ?_
   refine an ?_
   refine an ?_
   refine nt hK369 ?_
   refine sr (fun _ hK379 => ?_)
   refine mv ?_
   refine an ?_
   refine nt hK379 ?_
   refine sr (fun _ hK380 => ?_)
   refine lb 3 0 1 [sL a1] row23 ?_
   refine mv ?_
   obtain ⟨t381, wt381, h⟩ := bind_some' h
   refine st (cl fb48 (bits_Bit_ok a1 t364.len wt381) (fun v382 S383 e384 z385 => ?_))
   replace q23 := q23.up e384
   replace q376 := q376.up e384
   replace q52 := q52.up e384
   replace q378 := q378.up e384
   replace q2 := q2.up e384
   obtain rfl := z385
   refine vl (Y.eqI rfl rfl) ?_
   refine nt hK380 ?_
   refine G.cond _ rfl (fun c386 => ?_) (fun c386 => ?_)
   ·replace h := ite_t c386 h
    refine G.region ?_
    refine mv ?_
    refine an ?_
    refine GO.nil ?_
    refine GX.normal_block ?_
    refine GX.then hK59 ?_
    refine G.region ?_
    refine mv ?_
    refine vl (Y.subI rfl rfl) ?_
    refine an ?_
    refine GO.nil ?_
    obtain rfl := Option.some.inj h
    refine GX.keep [12, 10, 9, 4] rfl ?_
    refine GX.less 2 rfl ?_
    exact hK1 _ _ _ _ rfl ⟨(l2 e48 (l2 e79 (l2 e340 (l2 e345 (l2 e362 (l2 e367 (l2 e373 e384))))))), v377, q378, rfl, rfl⟩
   replace h := ite_f c386 h
   refine G.skip ?_
   refine GX.normal_block ?_
   refine GX.then hK59 ?_
   refine G.region ?_
   refine mv ?_
   refine vl (Y.subI rfl rfl) ?_
   refine an ?_
   refine GO.nil ?_
   obtain rfl := Option.some.inj h
   refine GX.keep [12, 10, 9, 4] rfl ?_
   refine GX.less 2 rfl ?_
   exact hK1 _ _ _ _ rfl ⟨(l2 e48 (l2 e79 (l2 e340 (l2 e345 (l2 e362 (l2 e367 (l2 e373 e384))))))), v375, q376, rfl, rfl⟩
  replace h := ite_f c357 h
  refine G.skip ?_
  refine GX.normal_block ?_
  refine GX.then hK59 ?_
  refine G.region ?_
  refine mv ?_
  refine vl (Y.subI rfl rfl) ?_
  refine an ?_
  refine GO.nil ?_
  obtain rfl := Option.some.inj h
  refine GX.keep [12, 10, 9, 4] rfl ?_
  refine GX.less 2 rfl ?_
  exact hK1 _ _ _ _ rfl ⟨(l2 e48 (l2 e79 (l2 e340 e345))), v51, q52, rfl, rfl⟩
 replace h := ite_f c58 h
 refine G.exit ?_
 refine GX.exit_then ?_
 obtain rfl := Option.some.inj h
 refine GX.keep [] rfl ?_
 exact hx53 _ _ _ ⟨_, _, _, e48, (hf1 _ rfl).symm, q52, rfl, rfl⟩

end
end Go.Ch
end
section
/- Functions of the program: what each comes to, proved. -/
set_option linter.unusedVariables false
set_option linter.unusedSimpArgs false
set_option maxRecDepth 100000
set_option maxHeartbeats 4000000
namespace Go.Ch
open Go.RowKit (wrap64)
open Go.Proofs
noncomputable section
/- chirograph/chirographref18.Extract -/
def r18_Extract_s2 (x47 : (List Str)) (t75 : (List Str)) : (Int) → Option ((Int) ⊕ (Str × Str × Bool ⊕ (Int)))
 | x86 => ((if (decide (x86 < (lenI (x47 ++ ([([18] : Str)] : List Str))))) = true then some (decide (x86 < (lenI t75))) else some false).bind fun b92 => (if b92 = true then ((req ((0 : Int) ≤ x86 ∧ x86 < lenI (x47 ++ ([([18] : Str)] : List Str)))).bind fun _ => ((req ((0 : Int) ≤ x86 ∧ x86 < lenI t75)).bind fun _ => (if (!((getI (x47 ++ ([([18] : Str)] : List Str)) x86) == (getI t75 x86))) = true then ((req ((0 : Int) ≤ x86 ∧ x86 < lenI (x47 ++ ([([18] : Str)] : List Str)))).bind fun _ => ((req ((0 : Int) ≤ x86 ∧ x86 < lenI t75)).bind fun _ => ((req ((0 : Int) ≤ x86 ∧ x86 < lenI (x47 ++ ([([18] : Str)] : List Str)))).bind fun _ => ((r03_Sum (getI (x47 ++ ([([18] : Str)] : List Str)) x86)).bind fun t124 => ((req ((0 : Int) ≤ x86 ∧ x86 < lenI t75)).bind fun _ => ((r03_Sum (getI t75 x86)).bind fun t137 => some (.inr (.inl ((getI (x47 ++ ([([18] : Str)] : List Str)) x86), (getI t75 x86), (t124 == t137)))))))))) else some (.inl (wrap64 (x86 + (1 : Int))))))) else some (.inr (.inr x86))))

def r18_Extract_s3 (x47 : (List Str)) (t166 : (List Str)) : (Int) → Option ((Int) ⊕ (Str × Str × Bool ⊕ (Int)))
 | x177 => ((if (decide (x177 < (lenI x47))) = true then some (decide (x177 < (lenI t166))) else some false).bind fun b183 => (if b183 = true then ((req ((0 : Int) ≤ x177 ∧ x177 < lenI x47)).bind fun _ => ((req ((0 : Int) ≤ x177 ∧ x177 < lenI t166)).bind fun _ => (if (!((getI x47 x177) == (getI t166 x177))) = true then ((req ((0 : Int) ≤ x177 ∧ x177 < lenI x47)).bind fun _ => ((req ((0 : Int) ≤ x177 ∧ x177 < lenI t166)).bind fun _ => ((req ((0 : Int) ≤ x177 ∧ x177 < lenI x47)).bind fun _ => ((r03_Sum (getI x47 x177)).bind fun t215 => ((req ((0 : Int) ≤ x177 ∧ x177 < lenI t166)).bind fun _ => ((r03_Sum (getI t166 x177)).bind fun t228 => some (.inr (.inl ((getI x47 x177), (getI t166 x177), (t215 == t228)))))))))) else some (.inl (wrap64 (x177 + (1 : Int))))))) else some (.inr (.inr x177))))

def r18_Extract_s1 (t9 : (List Str) × (List Item) × Int) : (Int × (List Str)) → Option ((Int × (List Str)) ⊕ (Int × (List Str)))
 | (x46, x47) => (if (decide ((0 : Int) ≤ x46)) = true then ((req ((0 : Int) ≤ x46 ∧ x46 < lenI t9.1)).bind fun _ => ((req (List.length x47 + List.length ([(getI t9.1 x46)] : List Str) ≤ LIM)).bind fun _ => some (.inl ((wrap64 (x46 - (1 : Int))), (x47 ++ ([(getI t9.1 x46)] : List Str)))))) else some (.inr (x46, x47)))

def r18_Extract (k : Nat) (a0 : (List Leaf)) (a1 : Lab) (a2 : Proof) : Option (Str × Str × Bool) :=
 ((r18_Nodes a2 a1).bind fun t9 => ((if (t9.2.2 != (0 : Int)) = true then some true else ((r16_Of a0).bind fun t23 => ((r16_Check t23).bind fun t30 => some (t30 != (0 : Int))))).bind fun b20 => (if b20 = true then some (([] : Str), ([] : Str), false) else ((iter (r18_Extract_s1 t9) ((wrap64 ((lenI t9.1) - (1 : Int))), ([] : List Str))).bind fun b50 => (match b50 with | (x46, x47) => (if ((lenI x47) == (0 : Int)) = true then ((req (List.length x47 + List.length ([([18] : Str)] : List Str) ≤ LIM)).bind fun _ => ((r18_Way k a0 a1).bind fun t75 => ((iter (r18_Extract_s2 x47 t75) (0 : Int)).bind fun b88 => (match b88 with | .inl r₀ => some r₀ | .inr x86 => some (([] : Str), ([] : Str), false))))) else ((r18_Way k a0 a1).bind fun t166 => ((iter (r18_Extract_s3 x47 t166) (0 : Int)).bind fun b179 => (match b179 with | .inl r₀ => some r₀ | .inr x177 => some (([] : Str), ([] : Str), false))))))))))

theorem r18_Extract_ok {S : Hp} (k : Nat) (a0 : (List Leaf)) (a1 : Lab) (a2 : Proof) {va0 : Value} (qa0 : Sls S va0 a0) {v1 : Value} (q2 : Sls S v1 a2.path) {r : Str × Str × Bool} (h : r18_Extract k a0 a1 a2 = some r) : Fn Tryz.prog 12 [va0, aggV [sL a1], aggV [sV (.int .i64 a2.end_), sL a2.leaf.label, sL a2.leaf.value, sV (.int .i64 a2.leaf.at_), sV (.int .i64 a2.a.len), sL a2.a.bits, sL a2.a.sum, sV (.int .i64 a2.a.at_), sV (.int .i64 a2.b.len), sL a2.b.bits, sL a2.b.sum, sV (.int .i64 a2.b.at_), sV v1]] S (fun v S' => v = .tuple #[strV r.1, strV r.2.1, .bool r.2.2]) := by
 unfold r18_Extract at h
 refine fo [.tmp 6, .tmp 7, .tmp 8] 95 Tryz.func12 Tryz.ntmps12 (fun o F Q hQ hN hret => ?_)
 refine sr (fun _ hK3 => ?_)
 refine st (OS.boxA (by decide) rfl (fun ad4 => ?_))
 refine st (OS.boxA (by decide) rfl (fun ad6 => ?_))
 refine an ?_
 refine an ?_
 refine an ?_
 refine nt hK3 ?_
 refine sr (fun _ hK8 => ?_)
 refine lb 0 0 13 [sV (.int .i64 a2.end_), sL a2.leaf.label, sL a2.leaf.value, sV (.int .i64 a2.leaf.at_), sV (.int .i64 a2.a.len), sL a2.a.bits, sL a2.a.sum, sV (.int .i64 a2.a.at_), sV (.int .i64 a2.b.len), sL a2.b.bits, sL a2.b.sum, sV (.int .i64 a2.b.at_), sV v1] row48 ?_
 refine lb 1 0 1 [sL a1] row23 ?_
 obtain ⟨t9, wt9, h⟩ := bind_some' h
 refine st (cl fb15 (r18_Nodes_ok a2 a1 q2 wt9) (fun v10 S11 e12 z13 => ?_))
 replace qa0 := qa0.up e12
 replace q2 := q2.up e12
 obtain ⟨v14, v16, rfl, q15, q17⟩ := z13
 refine mv ?_
 refine vl (Y.extract _ rfl rfl) ?_
 refine vl (Y.extract _ rfl rfl) ?_
 refine vl (Y.extract _ rfl rfl) ?_
 refine an ?_
 refine an ?_
 refine an ?_
 refine nt hK8 ?_
 refine G.seq (fun _ hK18 => ?_)
 refine sr (fun _ hK19 => ?_)
 refine mv ?_
 refine vl (Y.neI rfl rfl) ?_
 refine mv ?_
 obtain ⟨b20, wb20, h⟩ := bind_some' h
 refine GO.joinB 5 30 (b20 = ·) (fun K22 hK22 => ?_) ?_
 ·replace h := wb20
  rcases Bool.eq_false_or_eq_true (t9.2.2 != (0 : Int)) with c21 | c21
  ·replace h := ite_t c21 h
   refine gf 25 c21 ?_
   refine gf 25 c21 ?_
   refine gf 25 c21 ?_
   refine gf 25 c21 ?_
   refine vl (Y.pickT _ c21 rfl rfl) ?_
   refine GO.nil ?_
   refine p2 (p2 (p2 (p2 ?_)))
   exact hK22 _ _ l0 (Option.some.inj h).symm
  replace h := ite_f c21 h
  refine gv 25 c21 (Y.move rfl) ?_
  obtain ⟨t23, wt23, h⟩ := bind_some' h
  refine GO.onS 25 rfl (by decide) rfl c21 (cl fb50 (r16_Of_ok a0 qa0 wt23) (fun v24 S25 e26 z27 => ?_))
  replace qa0 := qa0.up e26
  replace q2 := q2.up e26
  replace q15 := q15.up e26
  replace q17 := q17.up e26
  have q29 := z27
  obtain ⟨t30, wt30, h⟩ := bind_some' h
  refine GO.onS 25 rfl (by decide) rfl c21 (cl fb49 (r16_Check_ok t23 q29 wt30) (fun v31 S32 e33 z34 => ?_))
  replace qa0 := qa0.up e33
  replace q2 := q2.up e33
  replace q15 := q15.up e33
  replace q17 := q17.up e33
  replace q29 := q29.up e33
  obtain rfl := z34
  refine gv 25 c21 (Y.neI rfl rfl) ?_
  refine vl (Y.pickF _ c21 rfl rfl) ?_
  refine GO.nil ?_
  refine p2 (p2 (p2 (p2 ?_)))
  exact hK22 _ _ (l2 e26 e33) (Option.some.inj h).symm
 rintro _ S35 e36 rfl
 replace qa0 := qa0.up e36
 replace q2 := q2.up e36
 replace q15 := q15.up e36
 replace q17 := q17.up e36
 refine nt hK19 ?_
 refine G.cond _ rfl (fun c37 => ?_) (fun c37 => ?_)
 ·replace h := ite_t c37 h
  refine sr (fun _ hK38 => ?_)
  refine an ?_
  refine an ?_
  refine an ?_
  refine nt hK38 ?_
  refine G.ret ?_
  obtain rfl := Option.some.inj h
  exact hret _ _ _ _ 2 (l2 e12 e36) (.cons (.tmp rfl) (.cons (.tmp rfl) (.cons (.tmp rfl) .nil))) rfl rfl
 replace h := ite_f c37 h
 refine sk hK18 ?_
 refine sr (fun _ hK39 => ?_)
 refine bs ([] : List Str) el58 (fun v40 => ?_)
 refine an ?_
 refine nt hK39 ?_
 refine G.seq (fun _ hK42 => ?_)
 refine sr (fun _ hK43 => ?_)
 refine mv ?_
 refine vl (Y.lenS rfl q15 slc58) ?_
 refine vl (Y.subI rfl rfl) ?_
 refine an ?_
 refine nt hK43 ?_
 refine G.block ?_
 obtain ⟨b50, wb50, ho51⟩ := bind_some' h
 refine G.keep [13, 12, 9, 4, 0] rfl ?_
 refine G.loopK (r18_Extract_s1 t9) (fun s₀ E' S' L' => match s₀ with | (x46, x47) => S35.le S' ∧ ∃ (v48 : Value), E' = [(13, .int .i64 x46), (12, v48), (9, v14), (4, .pointer (some ⟨ad4, 0, none⟩)), (0, va0)] ∧ Rw v48 x47 :: Blk ad6 [sV (.int .i64 a2.end_), sL a2.leaf.label, sL a2.leaf.value, sV (.int .i64 a2.leaf.at_), sV (.int .i64 a2.a.len), sL a2.a.bits, sL a2.a.sum, sV (.int .i64 a2.a.at_), sV (.int .i64 a2.b.len), sL a2.b.bits, sL a2.b.sum, sV (.int .i64 a2.b.at_), sV v1] :: Blk ad4 [sL a1] :: F = L') b50 0 (fun E₀ S₀ L₀ => ∃ (x46 : Int) (x47 : (List Str)) (v48 : Value), S35.le S₀ ∧ b50 = (x46, x47) ∧ E₀ = [(12, v48), (4, .pointer (some ⟨ad4, 0, none⟩)), (0, va0)] ∧ Rw v48 x47 :: Blk ad6 [sV (.int .i64 a2.end_), sL a2.leaf.label, sL a2.leaf.value, sV (.int .i64 a2.leaf.at_), sV (.int .i64 a2.a.len), sL a2.a.bits, sL a2.a.sum, sV (.int .i64 a2.a.at_), sV (.int .i64 a2.b.len), sL a2.b.bits, sL a2.b.sum, sV (.int .i64 a2.b.at_), sV v1] :: Blk ad4 [sL a1] :: F = L₀) wb50 ?_ ?_ ?_
 ·rintro _ S65 _ ⟨x46, x47, v48, e66, rfl, rfl, rfl⟩
  have h := ho51; clear ho51
  try dsimp only at h
  replace qa0 := qa0.up e66
  replace q2 := q2.up e66
  refine GX.exit_block ?_
  refine GX.then hK42 ?_
  refine G.seq (fun _ hK67 => ?_)
  refine sr (fun _ hK68 => ?_)
  refine mv ?_
  refine vl (Y.lenR 0  rfl rfl slc58) ?_
  refine vl (Y.eqI rfl rfl) ?_
  refine nt hK68 ?_
  refine G.cond _ rfl (fun c69 => ?_) (fun c69 => ?_)
  ·replace h := ite_t c69 h
   refine G.region ?_
   refine mv ?_
   refine bs ([([18] : Str)] : List Str) el58 (fun v70 => ?_)
   obtain ⟨g72, h⟩ := req_bind h
   refine st (OS.append (xs := x47) (ys := ([([18] : Str)] : List Str)) 1 (by decide) rfl rfl rfl (Rw.src (k := 0) rfl) el58 src58 g72 (fun v73 => ?_))
   refine an ?_
   refine nt hK67 ?_
   refine sr (fun _ hK74 => ?_)
   refine mv ?_
   refine lb 3 0 1 [sL a1] row23 ?_
   obtain ⟨t75, wt75, h⟩ := bind_some' h
   refine st (cl fb51 (r18_Way_ok k a0 a1 qa0 wt75) (fun v76 S77 e78 z79 => ?_))
   replace qa0 := qa0.up e78
   replace q2 := q2.up e78
   have q81 := z79
   refine an ?_
   refine nt hK74 ?_
   refine G.seq (fun _ hK82 => ?_)
   refine sr (fun _ hK83 => ?_)
   refine an ?_
   refine nt hK83 ?_
   refine G.block ?_
   obtain ⟨b88, wb88, ho89⟩ := bind_some' h
   refine G.keep [15, 14, 12] rfl ?_
   refine G.loopK (r18_Extract_s2 x47 t75) (fun s₀ E' S' L' => match s₀ with | x86 => S77.le S' ∧ E' = [(15, .int .i64 x86), (14, v76), (12, v73)] ∧ Rw v70 ([([18] : Str)] : List Str) :: Rw v73 (x47 ++ ([([18] : Str)] : List Str)) :: Blk ad6 [sV (.int .i64 a2.end_), sL a2.leaf.label, sL a2.leaf.value, sV (.int .i64 a2.leaf.at_), sV (.int .i64 a2.a.len), sL a2.a.bits, sL a2.a.sum, sV (.int .i64 a2.a.at_), sV (.int .i64 a2.b.len), sL a2.b.bits, sL a2.b.sum, sV (.int .i64 a2.b.at_), sV v1] :: Blk ad4 [sL a1] :: F = L') b88 2 (fun E₀ S₀ L₀ => ∃ (x86 : Int), S77.le S₀ ∧ b88 = .inr x86 ∧ E₀ = [] ∧ Rw v70 ([([18] : Str)] : List Str) :: Rw v73 (x47 ++ ([([18] : Str)] : List Str)) :: Blk ad6 [sV (.int .i64 a2.end_), sL a2.leaf.label, sL a2.leaf.value, sV (.int .i64 a2.leaf.at_), sV (.int .i64 a2.a.len), sL a2.a.bits, sL a2.a.sum, sV (.int .i64 a2.a.at_), sV (.int .i64 a2.b.len), sL a2.b.bits, sL a2.b.sum, sV (.int .i64 a2.b.at_), sV v1] :: Blk ad4 [sL a1] :: F = L₀) wb88 ?_ ?_ ?_
   ·rintro _ S162 _ ⟨x86, e163, rfl, rfl, rfl⟩
    have h := ho89; clear ho89
    try dsimp only at h
    replace q2 := q2.up e163
    refine GX.exit_block ?_
    refine GX.then hK82 ?_
    refine sr (fun _ hK164 => ?_)
    refine an ?_
    refine an ?_
    refine an ?_
    refine nt hK164 ?_
    refine G.ret ?_
    obtain rfl := Option.some.inj h
    exact hret _ _ _ _ 4 (l2 e12 (l2 e36 (l2 e66 (l2 e78 e163)))) (.cons (.tmp rfl) (.cons (.tmp rfl) (.cons (.tmp rfl) .nil))) rfl rfl
   ·exact ⟨Hp.le_refl _, rfl, rfl⟩
   rintro x86 _ S84 _ ⟨e85, rfl, rfl⟩ out2 h hf2 K2 hK2 hx87
   rw [r18_Extract_s2] at h
   replace q81 := q81.up e85
   replace q2 := q2.up e85
   refine G.seq (fun _ hK90 => ?_)
   refine sr (fun _ hK91 => ?_)
   refine mv ?_
   refine mv ?_
   refine vl (Y.lenR 1  rfl rfl slc58) ?_
   refine vl (Y.ltI rfl rfl) ?_
   refine mv ?_
   obtain ⟨b92, wb92, h⟩ := bind_some' h
   refine GO.joinB 5 64 (b92 = ·) (fun K94 hK94 => ?_) ?_
   ·replace h := wb92
    rcases Bool.eq_false_or_eq_true (decide (x86 < (lenI (x47 ++ ([([18] : Str)] : List Str))))) with c93 | c93
    ·replace h := ite_t c93 h
     refine gv 59 c93 (Y.move rfl) ?_
     refine gv 59 c93 (Y.move rfl) ?_
     refine gv 59 c93 (Y.lenS rfl q81 slc58) ?_
     refine gv 59 c93 (Y.ltI rfl rfl) ?_
     refine vl (Y.pickT _ c93 rfl rfl) ?_
     refine GO.nil ?_
     refine p2 (p2 (p2 (p2 ?_)))
     exact hK94 _ _ l0 (Option.some.inj h).symm
    replace h := ite_f c93 h
    refine gf 59 c93 ?_
    refine gf 59 c93 ?_
    refine gf 59 c93 ?_
    refine gf 59 c93 ?_
    refine vl (Y.pickF _ c93 rfl rfl) ?_
    refine GO.nil ?_
    refine p2 (p2 (p2 (p2 ?_)))
    exact hK94 _ _ l0 (Option.some.inj h).symm
   rintro _ S95 e96 rfl
   replace q81 := q81.up e96
   replace q2 := q2.up e96
   refine nt hK91 ?_
   refine G.cond _ rfl (fun c97 => ?_) (fun c97 => ?_)
   ·replace h := ite_t c97 h
    refine sk hK90 ?_
    refine G.seq (fun _ hK98 => ?_)
    refine G.block ?_
    refine G.seq (fun _ hK99 => ?_)
    obtain ⟨g100, h⟩ := req_bind h
    refine G.rowAt 1 rfl g100 (fun ad101 p102 z103 => ?_)
    obtain ⟨g104, h⟩ := req_bind h
    obtain ⟨ad105, p106, z107, q108⟩ := Sls.at q81 g104
    refine G.drawN 9 mixed (by kernel_rfl) ?_
    refine tn 0 rfl hQ (fun _ _ _ => Y.move rfl) ?_
    refine tn 1 rfl hQ (fun _ _ _ => Y.move rfl) ?_
    refine tn 2 rfl hQ (fun _ _ _ => Y.idxR rfl z103 rfl slc58 g100) ?_
    refine tn 3 rfl hQ (fun S₀ X₀ e₀ => Y.loadRowV (X₀.length + 1)  x86 0 rfl (Lk rfl) z103 g100 rfl rfl one9) ?_
    refine tn 4 rfl hQ (fun _ _ _ => Y.move rfl) ?_
    refine tn 5 rfl hQ (fun _ _ _ => Y.move rfl) ?_
    refine tn 6 rfl hQ (fun _ _ _ => Y.idxS rfl z107 rfl slc58 g104) ?_
    refine tn 7 rfl hQ (fun S₀ X₀ e₀ => Y.loadSV _ rfl (At.val (At.part (q108.up e₀) 0 1 [sV (strV (getI t75 x86))] rfl rfl)) one9) ?_
    refine tn 8 rfl hQ (fun _ _ _ => Y.neStr (a := (getI (x47 ++ ([([18] : Str)] : List Str)) x86)) (b := (getI t75 x86)) rfl rfl) ?_
    refine dn ?_
    refine GX.then hK99 ?_
    refine G.cond _ rfl (fun c109 => ?_) (fun c109 => ?_)
    ·replace h := ite_t c109 h
     refine G.seq (fun _ hK110 => ?_)
     obtain ⟨g111, h⟩ := req_bind h
     refine G.rowAt 1 rfl g111 (fun ad112 p113 z114 => ?_)
     obtain ⟨g115, h⟩ := req_bind h
     obtain ⟨ad116, p117, z118, q119⟩ := Sls.at q81 g115
     obtain ⟨g120, h⟩ := req_bind h
     refine G.rowAt 1 rfl g120 (fun ad121 p122 z123 => ?_)
     obtain ⟨t124, wt124, h⟩ := bind_some' h
     obtain ⟨g132, h⟩ := req_bind h
     obtain ⟨ad133, p134, z135, q136⟩ := Sls.at q81 g132
     obtain ⟨t137, wt137, h⟩ := bind_some' h
     refine G.drawN 22 mixed (by kernel_rfl) ?_
     refine tn 0 rfl hQ (fun _ _ _ => Y.move rfl) ?_
     refine tn 1 rfl hQ (fun _ _ _ => Y.move rfl) ?_
     refine tn 2 rfl hQ (fun _ _ _ => Y.idxR rfl z114 rfl slc58 g111) ?_
     refine tn 3 rfl hQ (fun S₀ X₀ e₀ => Y.loadRowV (X₀.length + 1)  x86 0 rfl (Lk rfl) z114 g111 rfl rfl one9) ?_
     refine tn 4 rfl hQ (fun _ _ _ => Y.move rfl) ?_
     refine tn 5 rfl hQ (fun _ _ _ => Y.move rfl) ?_
     refine tn 6 rfl hQ (fun _ _ _ => Y.idxS rfl z118 rfl slc58 g115) ?_
     refine tn 7 rfl hQ (fun S₀ X₀ e₀ => Y.loadSV _ rfl (At.val (At.part (q119.up e₀) 0 1 [sV (strV (getI t75 x86))] rfl rfl)) one9) ?_
     refine tn 8 rfl hQ (fun _ _ _ => Y.move rfl) ?_
     refine tn 9 rfl hQ (fun _ _ _ => Y.move rfl) ?_
     refine tn 10 rfl hQ (fun _ _ _ => Y.idxR rfl z123 rfl slc58 g120) ?_
     refine tn 11 rfl hQ (fun S₀ X₀ e₀ => Y.loadRowV (X₀.length + 1)  x86 0 rfl (Lk rfl) z123 g120 rfl rfl one9) ?_
     refine tn 13 rfl hQ (fun _ _ _ => Y.move rfl) ?_
     refine tn 14 rfl hQ (fun _ _ _ => Y.move rfl) ?_
     refine tn 15 rfl hQ (fun _ _ _ => Y.idxS rfl z135 rfl slc58 g132) ?_
     refine tn 16 rfl hQ (fun S₀ X₀ e₀ => Y.loadSV _ rfl (At.val (At.part (q136.up e₀) 0 1 [sV (strV (getI t75 x86))] rfl rfl)) one9) ?_
     refine g1 12 ?_
     refine n1 rfl (cl fb39 (r03_Sum_ok (getI (x47 ++ ([([18] : Str)] : List Str)) x86) wt124) (fun v146 S147 e148 z149 => ⟨⟨[], .refl, e148⟩, ?_⟩))
     have q150 := q81.up e148
     have q151 := q119.up e148
     have q152 := q136.up e148
     have q153 := q2.up e148
     obtain rfl := z149
     refine g1 17 ?_
     refine n1 rfl (cl fb39 (r03_Sum_ok (getI t75 x86) wt137) (fun v154 S155 e156 z157 => ⟨⟨[], .refl, (l2 e148 e156)⟩, ?_⟩))
     have q158 := q150.up e156
     have q159 := q151.up e156
     have q160 := q152.up e156
     have q161 := q153.up e156
     obtain rfl := z157
     refine tn 18 rfl hQ (fun _ _ _ => Y.eqA rfl rfl eqt23 (by decide) (EqV.lab _ _ Tryz.underlying23 one5 Tryz.underlying5)) ?_
     refine tn 19 rfl hQ (fun _ _ _ => Y.assign rfl) ?_
     refine tn 20 rfl hQ (fun _ _ _ => Y.assign rfl) ?_
     refine tn 21 rfl hQ (fun _ _ _ => Y.assign rfl) ?_
     refine dn ?_
     refine GX.then hK110 ?_
     refine G.ret ?_
     obtain rfl := Option.some.inj h
     obtain rfl := hf2 _ rfl
     have h := ho89
     try dsimp only at h
     obtain rfl := Option.some.inj h
     exact hret _ _ _ _ 4 (l2 e12 (l2 e36 (l2 e66 (l2 e78 (l2 e85 (l2 e96 (l2 e148 e156))))))) (.cons (.tmp rfl) (.cons (.tmp rfl) (.cons (.tmp rfl) .nil))) rfl rfl
    replace h := ite_f c109 h
    refine G.skip ?_
    refine GX.normal_block ?_
    refine GX.then hK98 ?_
    refine G.region ?_
    refine mv ?_
    refine vl (Y.addI rfl rfl) ?_
    refine an ?_
    refine GO.nil ?_
    obtain rfl := Option.some.inj h
    refine GX.keep [15, 14, 12] rfl ?_
    exact hK2 _ _ _ _ rfl ⟨(l2 e85 e96), rfl, rfl⟩
   replace h := ite_f c97 h
   refine G.exit ?_
   refine GX.exit_then ?_
   obtain rfl := Option.some.inj h
   refine GX.keep [] rfl ?_
   exact hx87 _ _ _ ⟨_, (l2 e85 e96), (hf2 _ rfl).symm, rfl, rfl⟩
  replace h := ite_f c69 h
  refine sk hK67 ?_
  refine sr (fun _ hK165 => ?_)
  refine mv ?_
  refine lb 2 0 1 [sL a1] row23 ?_
  obtain ⟨t166, wt166, h⟩ := bind_some' h
  refine st (cl fb51 (r18_Way_ok k a0 a1 qa0 wt166) (fun v167 S168 e169 z170 => ?_))
  replace qa0 := qa0.up e169
  replace q2 := q2.up e169
  have q172 := z170
  refine an ?_
  refine nt hK165 ?_
  refine G.seq (fun _ hK173 => ?_)
  refine sr (fun _ hK174 => ?_)
  refine an ?_
  refine nt hK174 ?_
  refine G.block ?_
  obtain ⟨b179, wb179, ho180⟩ := bind_some' h
  refine G.keep [15, 14, 12] rfl ?_
  refine G.loopK (r18_Extract_s3 x47 t166) (fun s₀ E' S' L' => match s₀ with | x177 => S168.le S' ∧ E' = [(15, .int .i64 x177), (14, v167), (12, v48)] ∧ Rw v48 x47 :: Blk ad6 [sV (.int .i64 a2.end_), sL a2.leaf.label, sL a2.leaf.value, sV (.int .i64 a2.leaf.at_), sV (.int .i64 a2.a.len), sL a2.a.bits, sL a2.a.sum, sV (.int .i64 a2.a.at_), sV (.int .i64 a2.b.len), sL a2.b.bits, sL a2.b.sum, sV (.int .i64 a2.b.at_), sV v1] :: Blk ad4 [sL a1] :: F = L') b179 2 (fun E₀ S₀ L₀ => ∃ (x177 : Int), S168.le S₀ ∧ b179 = .inr x177 ∧ E₀ = [] ∧ Rw v48 x47 :: Blk ad6 [sV (.int .i64 a2.end_), sL a2.leaf.label, sL a2.leaf.value, sV (.int .i64 a2.leaf.at_), sV (.int .i64 a2.a.len), sL a2.a.bits, sL a2.a.sum, sV (.int .i64 a2.a.at_), sV (.int .i64 a2.b.len), sL a2.b.bits, sL a2.b.sum, sV (.int .i64 a2.b.at_), sV v1] :: Blk ad4 [sL a1] :: F = L₀) wb179 ?_ ?_ ?_
  ·rintro _ S253 _ ⟨x177, e254, rfl, rfl, rfl⟩
   have h := ho180; clear ho180
   try dsimp only at h
   replace q2 := q2.up e254
   refine GX.exit_block ?_
   refine GX.then hK173 ?_
   refine sr (fun _ hK255 => ?_)
   refine an ?_
   refine an ?_
   refine an ?_
   refine nt hK255 ?_
   refine G.ret ?_
   obtain rfl := Option.some.inj h
   exact hret _ _ _ _ 3 (l2 e12 (l2 e36 (l2 e66 (l2 e169 e254)))) (.cons (.tmp rfl) (.cons (.tmp rfl) (.cons (.tmp rfl) .nil))) rfl rfl
  ·exact ⟨Hp.le_refl _, rfl, rfl⟩
  rintro x177 _ S175 _ ⟨e176, rfl, rfl⟩ out3 h hf3 K3 hK3 hx178
  rw [r18_Extract_s3] at h
  replace q172 := q172.up e176
  replace q2 := q2.up e176
  refine G.seq (fun _ hK181 => ?_)
  refine sr (fun _ hK182 => ?_)
  refine mv ?_
  refine mv ?_
  refine vl (Y.lenR 0  rfl rfl slc58) ?_
  refine vl (Y.ltI rfl rfl) ?_
  refine mv ?_
  obtain ⟨b183, wb183, h⟩ := bind_some' h
  refine GO.joinB 5 64 (b183 = ·) (fun K185 hK185 => ?_) ?_
  ·replace h := wb183
   rcases Bool.eq_false_or_eq_true (decide (x177 < (lenI x47))) with c184 | c184
   ·replace h := ite_t c184 h
    refine gv 59 c184 (Y.move rfl) ?_
    refine gv 59 c184 (Y.move rfl) ?_
    refine gv 59 c184 (Y.lenS rfl q172 slc58) ?_
    refine gv 59 c184 (Y.ltI rfl rfl) ?_
    refine vl (Y.pickT _ c184 rfl rfl) ?_
    refine GO.nil ?_
    refine p2 (p2 (p2 (p2 ?_)))
    exact hK185 _ _ l0 (Option.some.inj h).symm
   replace h := ite_f c184 h
   refine gf 59 c184 ?_
   refine gf 59 c184 ?_
   refine gf 59 c184 ?_
   refine gf 59 c184 ?_
   refine vl (Y.pickF _ c184 rfl rfl) ?_
   refine GO.nil ?_
   refine p2 (p2 (p2 (p2 ?_)))
   exact hK185 _ _ l0 (Option.some.inj h).symm
  rintro _ S186 e187 rfl
  replace q172 := q172.up e187
  replace q2 := q2.up e187
  refine nt hK182 ?_
  refine G.cond _ rfl (fun c188 => ?_) (fun c188 => ?_)
  ·replace h := ite_t c188 h
   refine sk hK181 ?_
   refine G.seq (fun _ hK189 => ?_)
   refine G.block ?_
   refine G.seq (fun _ hK190 => ?_)
   obtain ⟨g191, h⟩ := req_bind h
   refine G.rowAt 0 rfl g191 (fun ad192 p193 z194 => ?_)
   obtain ⟨g195, h⟩ := req_bind h
   obtain ⟨ad196, p197, z198, q199⟩ := Sls.at q172 g195
   refine G.drawN 9 mixed (by kernel_rfl) ?_
   refine tn 0 rfl hQ (fun _ _ _ => Y.move rfl) ?_
   refine tn 1 rfl hQ (fun _ _ _ => Y.move rfl) ?_
   refine tn 2 rfl hQ (fun _ _ _ => Y.idxR rfl z194 rfl slc58 g191) ?_
   refine tn 3 rfl hQ (fun S₀ X₀ e₀ => Y.loadRowV (X₀.length + 0)  x177 0 rfl (Lk rfl) z194 g191 rfl rfl one9) ?_
   refine tn 4 rfl hQ (fun _ _ _ => Y.move rfl) ?_
   refine tn 5 rfl hQ (fun _ _ _ => Y.move rfl) ?_
   refine tn 6 rfl hQ (fun _ _ _ => Y.idxS rfl z198 rfl slc58 g195) ?_
   refine tn 7 rfl hQ (fun S₀ X₀ e₀ => Y.loadSV _ rfl (At.val (At.part (q199.up e₀) 0 1 [sV (strV (getI t166 x177))] rfl rfl)) one9) ?_
   refine tn 8 rfl hQ (fun _ _ _ => Y.neStr (a := (getI x47 x177)) (b := (getI t166 x177)) rfl rfl) ?_
   refine dn ?_
   refine GX.then hK190 ?_
   refine G.cond _ rfl (fun c200 => ?_) (fun c200 => ?_)
   ·replace h := ite_t c200 h
    refine G.seq (fun _ hK201 => ?_)
    obtain ⟨g202, h⟩ := req_bind h
    refine G.rowAt 0 rfl g202 (fun ad203 p204 z205 => ?_)
    obtain ⟨g206, h⟩ := req_bind h
    obtain ⟨ad207, p208, z209, q210⟩ := Sls.at q172 g206
    obtain ⟨g211, h⟩ := req_bind h
    refine G.rowAt 0 rfl g211 (fun ad212 p213 z214 => ?_)
    obtain ⟨t215, wt215, h⟩ := bind_some' h
    obtain ⟨g223, h⟩ := req_bind h
    obtain ⟨ad224, p225, z226, q227⟩ := Sls.at q172 g223
    obtain ⟨t228, wt228, h⟩ := bind_some' h
    refine G.drawN 22 mixed (by kernel_rfl) ?_
    refine tn 0 rfl hQ (fun _ _ _ => Y.move rfl) ?_
    refine tn 1 rfl hQ (fun _ _ _ => Y.move rfl) ?_
    refine tn 2 rfl hQ (fun _ _ _ => Y.idxR rfl z205 rfl slc58 g202) ?_
    refine tn 3 rfl hQ (fun S₀ X₀ e₀ => Y.loadRowV (X₀.length + 0)  x177 0 rfl (Lk rfl) z205 g202 rfl rfl one9) ?_
    refine tn 4 rfl hQ (fun _ _ _ => Y.move rfl) ?_
    refine tn 5 rfl hQ (fun _ _ _ => Y.move rfl) ?_
    refine tn 6 rfl hQ (fun _ _ _ => Y.idxS rfl z209 rfl slc58 g206) ?_
    refine tn 7 rfl hQ (fun S₀ X₀ e₀ => Y.loadSV _ rfl (At.val (At.part (q210.up e₀) 0 1 [sV (strV (getI t166 x177))] rfl rfl)) one9) ?_
    refine tn 8 rfl hQ (fun _ _ _ => Y.move rfl) ?_
    refine tn 9 rfl hQ (fun _ _ _ => Y.move rfl) ?_
    refine tn 10 rfl hQ (fun _ _ _ => Y.idxR rfl z214 rfl slc58 g211) ?_
    refine tn 11 rfl hQ (fun S₀ X₀ e₀ => Y.loadRowV (X₀.length + 0)  x177 0 rfl (Lk rfl) z214 g211 rfl rfl one9) ?_
    refine tn 13 rfl hQ (fun _ _ _ => Y.move rfl) ?_
    refine tn 14 rfl hQ (fun _ _ _ => Y.move rfl) ?_
    refine tn 15 rfl hQ (fun _ _ _ => Y.idxS rfl z226 rfl slc58 g223) ?_
    refine tn 16 rfl hQ (fun S₀ X₀ e₀ => Y.loadSV _ rfl (At.val (At.part (q227.up e₀) 0 1 [sV (strV (getI t166 x177))] rfl rfl)) one9) ?_
    refine g1 12 ?_
    refine n1 rfl (cl fb39 (r03_Sum_ok (getI x47 x177) wt215) (fun v237 S238 e239 z240 => ⟨⟨[], .refl, e239⟩, ?_⟩))
    have q241 := q172.up e239
    have q242 := q210.up e239
    have q243 := q227.up e239
    have q244 := q2.up e239
    obtain rfl := z240
    refine g1 17 ?_
    refine n1 rfl (cl fb39 (r03_Sum_ok (getI t166 x177) wt228) (fun v245 S246 e247 z248 => ⟨⟨[], .refl, (l2 e239 e247)⟩, ?_⟩))
    have q249 := q241.up e247
    have q250 := q242.up e247
    have q251 := q243.up e247
    have q252 := q244.up e247
    obtain rfl := z248
    refine tn 18 rfl hQ (fun _ _ _ => Y.eqA rfl rfl eqt23 (by decide) (EqV.lab _ _ Tryz.underlying23 one5 Tryz.underlying5)) ?_
    refine tn 19 rfl hQ (fun _ _ _ => Y.assign rfl) ?_
    refine tn 20 rfl hQ (fun _ _ _ => Y.assign rfl) ?_
    refine tn 21 rfl hQ (fun _ _ _ => Y.assign rfl) ?_
    refine dn ?_
    refine GX.then hK201 ?_
    refine G.ret ?_
    obtain rfl := Option.some.inj h
    obtain rfl := hf3 _ rfl
    have h := ho180
    try dsimp only at h
    obtain rfl := Option.some.inj h
    exact hret _ _ _ _ 3 (l2 e12 (l2 e36 (l2 e66 (l2 e169 (l2 e176 (l2 e187 (l2 e239 e247))))))) (.cons (.tmp rfl) (.cons (.tmp rfl) (.cons (.tmp rfl) .nil))) rfl rfl
   replace h := ite_f c200 h
   refine G.skip ?_
   refine GX.normal_block ?_
   refine GX.then hK189 ?_
   refine G.region ?_
   refine mv ?_
   refine vl (Y.addI rfl rfl) ?_
   refine an ?_
   refine GO.nil ?_
   obtain rfl := Option.some.inj h
   refine GX.keep [15, 14, 12] rfl ?_
   exact hK3 _ _ _ _ rfl ⟨(l2 e176 e187), rfl, rfl⟩
  replace h := ite_f c188 h
  refine G.exit ?_
  refine GX.exit_then ?_
  obtain rfl := Option.some.inj h
  refine GX.keep [] rfl ?_
  exact hx178 _ _ _ ⟨_, (l2 e176 e187), (hf3 _ rfl).symm, rfl, rfl⟩
 ·exact ⟨Hp.le_refl _, v40, rfl, rfl⟩
 rintro ⟨x46, x47⟩ _ S44 _ ⟨e45, v48, rfl, rfl⟩ out1 h hf1 K1 hK1 hx49
 rw [r18_Extract_s1] at h
 replace q15 := q15.up e45
 replace qa0 := qa0.up e45
 replace q2 := q2.up e45
 refine G.seq (fun _ hK52 => ?_)
 refine sr (fun _ hK53 => ?_)
 refine mv ?_
 refine vl (Y.geI rfl rfl) ?_
 refine nt hK53 ?_
 refine G.cond _ rfl (fun c54 => ?_) (fun c54 => ?_)
 ·replace h := ite_t c54 h
  refine sk hK52 ?_
  refine G.seq (fun _ hK55 => ?_)
  refine G.block ?_
  refine G.region ?_
  refine mv ?_
  refine mv ?_
  refine mv ?_
  obtain ⟨g56, h⟩ := req_bind h
  obtain ⟨ad57, p58, z59, q60⟩ := Sls.at q15 g56
  refine vl (Y.idxS rfl z59 rfl slc58 g56) ?_
  refine vl (Y.loadSV _ rfl (At.val (At.part q60 0 1 [sV (strV (getI t9.1 x46))] rfl rfl)) one9) ?_
  refine bs ([(getI t9.1 x46)] : List Str) el58 (fun v61 => ?_)
  obtain ⟨g63, h⟩ := req_bind h
  refine st (OS.append (xs := x47) (ys := ([(getI t9.1 x46)] : List Str)) 1 (by decide) rfl rfl rfl (Rw.src (k := 0) rfl) el58 src58 g63 (fun v64 => ?_))
  refine an ?_
  refine GO.nil ?_
  refine GX.normal_block ?_
  refine GX.then hK55 ?_
  refine G.region ?_
  refine mv ?_
  refine vl (Y.subI rfl rfl) ?_
  refine an ?_
  refine GO.nil ?_
  obtain rfl := Option.some.inj h
  refine GX.keep [13, 12, 9, 4, 0] rfl ?_
  refine GX.less 1 rfl ?_
  exact hK1 _ _ _ _ rfl ⟨e45, v64, rfl, rfl⟩
 replace h := ite_f c54 h
 refine G.exit ?_
 refine GX.exit_then ?_
 obtain rfl := Option.some.inj h
 refine GX.keep [12, 4, 0] rfl ?_
 exact hx49 _ _ _ ⟨_, _, _, e45, (hf1 _ rfl).symm, rfl, rfl⟩

end
end Go.Ch
end
section
/- Functions of the program: what each comes to, proved. -/
set_option linter.unusedVariables false
set_option linter.unusedSimpArgs false
set_option maxRecDepth 100000
set_option maxHeartbeats 4000000
namespace Go.Ch
open Go.RowKit (wrap64)
open Go.Proofs
noncomputable section
/- slices.Reverse[[]chirograph/node.Item,chirograph/node.Item] -/
def slices_Reverse_Item_s1  : (Int × Int × (List Item)) → Option ((Int × Int × (List Item)) ⊕ (Int × Int × (List Item)))
 | (x4, x5, x6) => (if (decide (x5 < x4)) = true then ((req ((0 : Int) ≤ x4 ∧ x4 < lenI x6)).bind fun _ => ((req ((0 : Int) ≤ x5 ∧ x5 < lenI x6)).bind fun _ => ((req ((0 : Int) ≤ x5 ∧ x5 < lenI x6)).bind fun _ => ((req ((0 : Int) ≤ x4 ∧ x4 < lenI (x6.set (Int.toNat x5) (getI x6 x4)))).bind fun _ => some (.inl ((wrap64 (x4 - (1 : Int))), (wrap64 (x5 + (1 : Int))), ((x6.set (Int.toNat x5) (getI x6 x4)).set (Int.toNat x4) (getI x6 x5)))))))) else some (.inr (x4, x5, x6)))

def slices_Reverse_Item  (a0 : (List Item)) : Option (List Item) :=
 ((iter (slices_Reverse_Item_s1) ((wrap64 ((lenI a0) - (1 : Int))), (0 : Int), a0)).bind fun b8 => (match b8 with | (x4, x5, x6) => some x6))

theorem slices_Reverse_Item_ok {S : Hp} (a0 : (List Item)) {va0 : Value} {r : (List Item)} (h : slices_Reverse_Item a0 = some r) : FnP Tryz.prog 144 [va0] S (Rw va0 a0) (fun v S' A' => v = .tuple #[] ∧ A' = Rw va0 r) := by
 unfold slices_Reverse_Item at h
 refine Fn.ofP [] 28 Tryz.func144 rfl Tryz.ntmps144 (Nat.le_of_ble_eq_true rfl) rfl (fun o F Q hQ hN hret => ?_)
 refine sr (fun _ hK1 => ?_)
 refine mv ?_
 refine vl (Y.lenR 0  rfl rfl slc32) ?_
 refine vl (Y.subI rfl rfl) ?_
 refine an ?_
 refine an ?_
 refine nt hK1 ?_
 refine G.block ?_
 obtain ⟨b8, wb8, ho9⟩ := bind_some' h
 refine G.keep [3, 2, 0] rfl ?_
 refine G.loopK (slices_Reverse_Item_s1) (fun s₀ E' S' L' => match s₀ with | (x4, x5, x6) => S.le S' ∧ E' = [(3, .int .i64 x4), (2, .int .i64 x5), (0, va0)] ∧ Rw va0 x6 :: F = L') b8 0 (fun E₀ S₀ L₀ => ∃ (x4 : Int) (x5 : Int) (x6 : (List Item)), S.le S₀ ∧ b8 = (x4, x5, x6) ∧ E₀ = [] ∧ Rw va0 x6 :: F = L₀) wb8 ?_ ?_ ?_
 ·rintro _ S30 _ ⟨x4, x5, x6, e31, rfl, rfl, rfl⟩
  have h := ho9; clear ho9
  try dsimp only at h
  refine GX.exit_block ?_
  refine GX.fall hN ?_
  obtain rfl := Option.some.inj h
  exact hret _ _ _ _ _ 0 e31 .nil ⟨rfl, rfl⟩ rfl
 ·exact ⟨Hp.le_refl _, rfl, rfl⟩
 rintro ⟨x4, x5, x6⟩ _ S2 _ ⟨e3, rfl, rfl⟩ out1 h hf1 K1 hK1 hx7
 rw [slices_Reverse_Item_s1] at h
 refine G.seq (fun _ hK10 => ?_)
 refine sr (fun _ hK11 => ?_)
 refine mv ?_
 refine mv ?_
 refine vl (Y.ltI rfl rfl) ?_
 refine nt hK11 ?_
 refine G.cond _ rfl (fun c12 => ?_) (fun c12 => ?_)
 ·replace h := ite_t c12 h
  refine sk hK10 ?_
  refine G.seq (fun _ hK13 => ?_)
  refine G.block ?_
  obtain ⟨g14, h⟩ := req_bind h
  refine G.rowAt 0 rfl g14 (fun ad15 p16 z17 => ?_)
  obtain ⟨g18, h⟩ := req_bind h
  refine G.rowAt 0 rfl g18 (fun ad19 p20 z21 => ?_)
  obtain ⟨g22, h⟩ := req_bind h
  refine G.rowAt 0 rfl g22 (fun ad23 p24 z25 => ?_)
  obtain ⟨g26, h⟩ := req_bind h
  refine G.rowAt 0 rfl (by simpa [lenI] using g26) (fun ad27 p28 z29 => ?_)
  refine G.drawS 13 _ ((fun _ => True) :: F) mixed .refl (by kernel_rfl) ?_
  refine tx 0 rfl (.lose .refl) hQ (fun _ _ _ => Y.move rfl) ?_
  refine tx 1 rfl (.lose .refl) hQ (fun _ _ _ => Y.move rfl) ?_
  refine tx 2 rfl (.lose .refl) hQ (fun _ _ _ => Y.move rfl) ?_
  refine tx 3 rfl (.lose .refl) hQ (fun _ _ _ => Y.move rfl) ?_
  refine tx 4 rfl (.lose .refl) hQ (fun _ _ _ => Y.move rfl) ?_
  refine tx 5 rfl (.lose .refl) hQ (fun _ _ _ => Y.move rfl) ?_
  refine tx 6 rfl (.lose .refl) hQ (fun _ _ _ => Y.idxR rfl z17 rfl slc32 g14) ?_
  refine tk 7 [7, 13] rfl hQ Gd.none (fun S₀ X₀ e₀ => Y.loadRow (X₀.length + 0)  x4 0 4 [sV (.int .i64 ((getI x6 x4).len)), sL ((getI x6 x4).bits), sL ((getI x6 x4).sum), sV (.int .i64 ((getI x6 x4).at_))] rfl (Lk rfl) z17 g14 rfl rfl row29 (by kernel_rfl)) ?_
  refine tx 8 rfl (.lose .refl) hQ (fun _ _ _ => Y.move rfl) ?_
  refine tx 9 rfl (.lose .refl) hQ (fun _ _ _ => Y.move rfl) ?_
  refine tx 10 rfl (.lose .refl) hQ (fun _ _ _ => Y.idxR rfl z21 rfl slc32 g18) ?_
  refine tk 11 [11, 13] rfl hQ Gd.none (fun S₀ X₀ e₀ => Y.loadRow (X₀.length + 0)  x5 0 4 [sV (.int .i64 ((getI x6 x5).len)), sL ((getI x6 x5).bits), sL ((getI x6 x5).sum), sV (.int .i64 ((getI x6 x5).at_))] rfl (Lk rfl) z21 g18 rfl rfl row29 (by kernel_rfl)) ?_
  refine tx 12 rfl (.lose .refl) hQ (fun _ _ _ => Y.idxR rfl z25 rfl slc32 g22) ?_
  refine g1 13 ?_
  refine n2 rfl (OS.storeRow 0 x5 (getI x6 x4) rfl rfl (aggV_cells _) rfl z25 g22 rfl size29 ⟨⟨[], (.lose .refl), l0⟩, ?_⟩)
  refine tx 14 rfl (.lose .refl) hQ (fun _ _ _ => Y.idxR rfl z29 rfl slc32 (by simpa [lenI] using g26)) ?_
  refine g1 15 ?_
  refine n2 rfl (OS.storeRow 0 x4 (getI x6 x5) rfl rfl (aggV_cells _) rfl z29 g26 rfl size29 ⟨⟨[], (.lose .refl), l0⟩, ?_⟩)
  refine dn ?_
  refine GX.normal_block ?_
  refine GX.then hK13 ?_
  refine G.region ?_
  refine mv ?_
  refine vl (Y.addI rfl rfl) ?_
  refine mv ?_
  refine vl (Y.subI rfl rfl) ?_
  refine an ?_
  refine an ?_
  refine GO.nil ?_
  obtain rfl := Option.some.inj h
  refine GX.keep [3, 2, 0] rfl ?_
  exact hK1 _ _ _ _ rfl ⟨e3, rfl, rfl⟩
 replace h := ite_f c12 h
 refine G.exit ?_
 refine GX.exit_then ?_
 obtain rfl := Option.some.inj h
 refine GX.keep [] rfl ?_
 exact hx7 _ _ _ ⟨_, _, _, e3, (hf1 _ rfl).symm, rfl, rfl⟩

end
end Go.Ch
end
