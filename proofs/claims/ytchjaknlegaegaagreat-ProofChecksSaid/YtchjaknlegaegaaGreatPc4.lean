/- ProofChecks of layer 18 returns true for every input, and each argument reads behind the call as it read before. Part 5 of 6. No condition. -/
import Derived.Lib.Bytealg
import Derived.Test.YtchjaknlegaegaaGreatPc3
section
/- Functions of the program: what each comes to, proved. -/
set_option linter.unusedVariables false
set_option linter.unusedSimpArgs false
set_option maxRecDepth 100000
set_option maxHeartbeats 4000000
namespace Go.Ch
open Go.RowKit (wrap64)
open Go.Proofs
noncomputable section
/- chirograph/proof.Make -/
def proof_Make_s1 (k : Nat) (a1 : Lab) : ((List Leaf) × (List Item)) → Option (((List Leaf) × (List Item)) ⊕ (Proof × Int ⊕ ((List Leaf) × (List Item))))
 | (x75, x78) => (if (decide ((1 : Int) < (lenI x75))) = true then ((proof_pair (proof_item k) x75).bind fun t87 => ((node_Inner_Item t87).bind fun t95 => ((bits_Prefix_Has (⟨t95.len, t95.bits⟩ : Pfx) a1).bind fun t104 => (if (!t104) = true then ((slices_Reverse_Item x78).bind fun t111 => some (.inr (.inl ((⟨(2 : Int), (⟨zL, zL, 0⟩ : Leaf), t87.l, t87.r, t111⟩ : Proof), (0 : Int))))) else ((proof_sides x75 t95.len).bind fun t123 => ((bits_Bit a1 t95.len).bind fun t134 => (if (t134 == (1 : Int)) = true then ((proof_item k t123.1).bind fun t141 => ((req (List.length x78 + List.length ([t141] : List Item) ≤ LIM)).bind fun _ => some (.inl (t123.2, (x78 ++ ([t141] : List Item)))))) else ((proof_item k t123.2).bind fun t151 => ((req (List.length x78 + List.length ([t151] : List Item) ≤ LIM)).bind fun _ => some (.inl (t123.1, (x78 ++ ([t151] : List Item))))))))))))) else some (.inr (.inr (x75, x78))))

def proof_Make (k : Nat) (a0 : (List Leaf)) (a1 : Lab) : Option (Proof × Int) :=
 ((proof_sorted k a0).bind fun t7 => ((patch_Of k t7).bind fun t16 => ((patch_Check t16).bind fun t23 => (if (t23 != (0 : Int)) = true then some ((⟨0, (⟨zL, zL, 0⟩ : Leaf), (⟨0, zL, zL, 0⟩ : Item), (⟨0, zL, zL, 0⟩ : Item), []⟩ : Proof), t23) else ((iter (proof_Make_s1 k a1) (t7, ([] : List Item))).bind fun b81 => (match b81 with | .inl r₀ => some r₀ | .inr (x75, x78) => ((slices_Reverse_Item x78).bind fun t163 => (if ((lenI x75) == (0 : Int)) = true then some ((⟨(0 : Int), (⟨zL, zL, 0⟩ : Leaf), (⟨0, zL, zL, 0⟩ : Item), (⟨0, zL, zL, 0⟩ : Item), t163⟩ : Proof), (0 : Int)) else ((req ((0 : Int) ≤ (0 : Int) ∧ (0 : Int) < lenI x75)).bind fun _ => some ((⟨(1 : Int), (getI x75 (0 : Int)), (⟨0, zL, zL, 0⟩ : Item), (⟨0, zL, zL, 0⟩ : Item), t163⟩ : Proof), (0 : Int)))))))))))

theorem proof_Make_ok {S : Hp} (k : Nat) (a0 : (List Leaf)) (a1 : Lab) {va0 : Value} (qa0 : Sls S va0 a0) {r : Proof × Int} (h : proof_Make k a0 a1 = some r) : Fn Tryz.prog 68 [va0, aggV [sL a1]] S (fun v S' => ∃ (v188 : Value), v = .tuple #[aggV [sV (.int .i64 r.1.end_), sL r.1.leaf.label, sL r.1.leaf.value, sV (.int .i64 r.1.leaf.at_), sV (.int .i64 r.1.a.len), sL r.1.a.bits, sL r.1.a.sum, sV (.int .i64 r.1.a.at_), sV (.int .i64 r.1.b.len), sL r.1.b.bits, sL r.1.b.sum, sV (.int .i64 r.1.b.at_), sV v188], .int .i64 r.2] ∧ Sls S' v188 r.1.path) := by
 unfold proof_Make at h
 refine fo [.cell 4 34, .tmp 5] 73 Tryz.func68 Tryz.ntmps68 (fun o F Q hQ hN hret => ?_)
 refine sr (fun _ hK1 => ?_)
 refine st (OS.boxA (by decide) rfl (fun ad2 => ?_))
 refine st (OS.alloc _ (by decide) zero34 (fun ad4 => ?_))
 refine an ?_
 refine nt hK1 ?_
 refine sr (fun _ hK6 => ?_)
 refine mv ?_
 obtain ⟨t7, wt7, h⟩ := bind_some' h
 refine st (cl fb42 (proof_sorted_ok k a0 qa0 wt7) (fun v8 S9 e10 z11 => ?_))
 replace qa0 := qa0.up e10
 have q13 := z11
 refine an ?_
 refine nt hK6 ?_
 refine G.seq (fun _ hK14 => ?_)
 refine sr (fun _ hK15 => ?_)
 refine mv ?_
 obtain ⟨t16, wt16, h⟩ := bind_some' h
 refine st (cl fb44 (patch_Of_ok k t7 q13 wt16) (fun v17 S18 e19 z20 => ?_))
 replace qa0 := qa0.up e19
 replace q13 := q13.up e19
 have q22 := z20
 obtain ⟨t23, wt23, h⟩ := bind_some' h
 refine st (cl fb43 (patch_Check_ok t16 q22 wt23) (fun v24 S25 e26 z27 => ?_))
 replace qa0 := qa0.up e26
 replace q13 := q13.up e26
 replace q22 := q22.up e26
 obtain rfl := z27
 refine an ?_
 refine nt hK15 ?_
 refine sr (fun _ hK28 => ?_)
 refine mv ?_
 refine vl (Y.neI rfl rfl) ?_
 refine nt hK28 ?_
 refine G.cond _ rfl (fun c29 => ?_) (fun c29 => ?_)
 ·replace h := ite_t c29 h
  refine sr (fun _ hK30 => ?_)
  refine vl (Y.buildE _ [sV (.int .i64 0), sL zL, sL zL, sV (.int .i64 0), sV (.int .i64 0), sL zL, sL zL, sV (.int .i64 0), sV (.int .i64 0), sL zL, sL zL, sV (.int .i64 0), sV (.slice none 0 0)] strt34 zero34 rfl .nil) ?_
  refine mv ?_
  refine sf 0 13 [sV (.int .i64 0), sL zL, sL zL, sV (.int .i64 0), sV (.int .i64 0), sL zL, sL zL, sV (.int .i64 0), sV (.int .i64 0), sL zL, sL zL, sV (.int .i64 0), sV (.slice none 0 0)] (aggV_cells _) (oI (oL (oL (oI (oI (oL (oL (oI (oI (oL (oL (oI (oI oN))))))))))))) size34 ?_
  refine an ?_
  refine nt hK30 ?_
  refine G.ret ?_
  obtain rfl := Option.some.inj h
  exact hret _ _ _ _ 2 (l2 e10 (l2 e19 e26)) (.cons (.row (k := 0) rfl rfl row34 (by kernel_rfl)) (.cons (.tmp rfl) .nil)) ⟨_, rfl, (Sls.nil (α := Item) _)⟩ rfl
 replace h := ite_f c29 h
 refine sk hK14 ?_
 refine sr (fun _ hK31 => ?_)
 refine an ?_
 refine nt hK31 ?_
 refine G.seq (fun _ hK32 => ?_)
 refine G.block ?_
 refine G.nilRow (α := Item) ?_
 obtain ⟨b81, wb81, ho82⟩ := bind_some' h
 refine G.keep [8, 6, 4, 3] rfl ?_
 refine G.loopK (proof_Make_s1 k a1) (fun s₀ E' S' L' => match s₀ with | (x75, x78) => S25.le S' ∧ ∃ (v76 : Value) (v79 : Value), Sls S' v76 x75 ∧ E' = [(8, v79), (6, v76), (4, .pointer (some ⟨ad4, 0, none⟩)), (3, .pointer (some ⟨ad2, 0, none⟩))] ∧ Rw v79 x78 :: Blk ad4 [sV (.int .i64 0), sL zL, sL zL, sV (.int .i64 0), sV (.int .i64 0), sL zL, sL zL, sV (.int .i64 0), sV (.int .i64 0), sL zL, sL zL, sV (.int .i64 0), sV (.slice none 0 0)] :: Blk ad2 [sL a1] :: F = L') b81 0 (fun E₀ S₀ L₀ => ∃ (x75 : (List Leaf)) (x78 : (List Item)) (v76 : Value) (v79 : Value), S25.le S₀ ∧ b81 = .inr (x75, x78) ∧ Sls S₀ v76 x75 ∧ E₀ = [(8, v79), (6, v76), (4, .pointer (some ⟨ad4, 0, none⟩))] ∧ Rw v79 x78 :: Blk ad4 [sV (.int .i64 0), sL zL, sL zL, sV (.int .i64 0), sV (.int .i64 0), sL zL, sL zL, sV (.int .i64 0), sV (.int .i64 0), sL zL, sL zL, sV (.int .i64 0), sV (.slice none 0 0)] :: Blk ad2 [sL a1] :: F = L₀) wb81 ?_ ?_ ?_
 ·rintro _ S160 _ ⟨x75, x78, v76, v79, e161, rfl, q77, rfl, rfl⟩
  have h := ho82; clear ho82
  try dsimp only at h
  refine GX.exit_block ?_
  refine GX.then hK32 ?_
  refine sr (fun _ hK162 => ?_)
  refine mv ?_
  obtain ⟨t163, wt163, h⟩ := bind_some' h
  refine st (OS.callP 0 _ (by decide) rfl fb144 rfl (slices_Reverse_Item_ok x78 wt163) (fun v164 S165 _ e166 z167 => ?_))
  replace q77 := q77.up e166
  obtain ⟨rfl, rfl⟩ := z167
  refine nt hK162 ?_
  refine G.seq (fun _ hK168 => ?_)
  refine sr (fun _ hK169 => ?_)
  refine mv ?_
  refine vl (Y.lenS rfl q77 slc35) ?_
  refine vl (Y.eqI rfl rfl) ?_
  refine nt hK169 ?_
  refine G.cond _ rfl (fun c170 => ?_) (fun c170 => ?_)
  ·replace h := ite_t c170 h
   refine sr (fun _ hK171 => ?_)
   refine mv ?_
   refine GO.rowOne 0 rfl (fun z172 => ?_)
   refine vl (Y.buildE _ [sV (.int .i64 (0 : Int)), sL zL, sL zL, sV (.int .i64 0), sV (.int .i64 0), sL zL, sL zL, sV (.int .i64 0), sV (.int .i64 0), sL zL, sL zL, sV (.int .i64 0), sV v79] strt34 zero34 rfl (.cons 0 1 [sV (.int .i64 (0 : Int))] rfl rfl rfl rfl rfl (.cons 12 1 [sV v79] rfl (cells_one z172) rfl rfl rfl .nil))) ?_
   refine GO.rowOne 0 rfl (fun z173 => ?_)
   refine sf 1 13 [sV (.int .i64 (0 : Int)), sL zL, sL zL, sV (.int .i64 0), sV (.int .i64 0), sL zL, sL zL, sV (.int .i64 0), sV (.int .i64 0), sL zL, sL zL, sV (.int .i64 0), sV v79] (aggV_cells _) (oI (oL (oL (oI (oI (oL (oL (oI (oI (oL (oL (oI (oV (z173) oN))))))))))))) size34 ?_
   refine an ?_
   refine nt hK171 ?_
   refine G.ret ?_
   refine GX.shareR 0 rfl (fun S174 e175 q176 => ?_)
   replace q77 := q77.up e175
   obtain rfl := Option.some.inj h
   exact hret _ _ _ _ 3 (l2 e10 (l2 e19 (l2 e26 (l2 e161 (l2 e166 e175))))) (.cons (.row (k := 1) rfl rfl row34 (by kernel_rfl)) (.cons (.tmp rfl) .nil)) ⟨_, rfl, q176⟩ rfl
  replace h := ite_f c170 h
  refine sk hK168 ?_
  refine sr (fun _ hK177 => ?_)
  refine mv ?_
  obtain ⟨g178, h⟩ := req_bind h
  obtain ⟨ad179, p180, z181, q182⟩ := Sls.at q77 g178
  refine vl (Y.idxS rfl z181 rfl slc35 g178) ?_
  refine vl (Y.loadS [sL ((getI x75 (0 : Int)).label), sL ((getI x75 (0 : Int)).value), sV (.int .i64 ((getI x75 (0 : Int)).at_))] rfl (At.part q182 0 3 _ rfl rfl) row25 (by kernel_rfl)) ?_
  refine mv ?_
  refine GO.rowOne 0 rfl (fun z183 => ?_)
  refine vl (Y.buildE _ [sV (.int .i64 (1 : Int)), sL ((getI x75 (0 : Int)).label), sL ((getI x75 (0 : Int)).value), sV (.int .i64 ((getI x75 (0 : Int)).at_)), sV (.int .i64 0), sL zL, sL zL, sV (.int .i64 0), sV (.int .i64 0), sL zL, sL zL, sV (.int .i64 0), sV v79] strt34 zero34 rfl (.cons 0 1 [sV (.int .i64 (1 : Int))] rfl rfl rfl rfl rfl (.cons 1 3 [sL ((getI x75 (0 : Int)).label), sL ((getI x75 (0 : Int)).value), sV (.int .i64 ((getI x75 (0 : Int)).at_))] rfl (aggV_cells _) rfl rfl rfl (.cons 12 1 [sV v79] rfl (cells_one z183) rfl rfl rfl .nil)))) ?_
  refine GO.rowOne 0 rfl (fun z184 => ?_)
  refine sf 1 13 [sV (.int .i64 (1 : Int)), sL ((getI x75 (0 : Int)).label), sL ((getI x75 (0 : Int)).value), sV (.int .i64 ((getI x75 (0 : Int)).at_)), sV (.int .i64 0), sL zL, sL zL, sV (.int .i64 0), sV (.int .i64 0), sL zL, sL zL, sV (.int .i64 0), sV v79] (aggV_cells _) (oI (oL (oL (oI (oI (oL (oL (oI (oI (oL (oL (oI (oV (z184) oN))))))))))))) size34 ?_
  refine an ?_
  refine nt hK177 ?_
  refine G.ret ?_
  refine GX.shareR 0 rfl (fun S185 e186 q187 => ?_)
  replace q77 := q77.up e186
  replace q182 := q182.up e186
  obtain rfl := Option.some.inj h
  exact hret _ _ _ _ 3 (l2 e10 (l2 e19 (l2 e26 (l2 e161 (l2 e166 e186))))) (.cons (.row (k := 1) rfl rfl row34 (by kernel_rfl)) (.cons (.tmp rfl) .nil)) ⟨_, rfl, q187⟩ rfl
 ·exact ⟨Hp.le_refl _, v8, (.slice none 0 0), q13, rfl, rfl⟩
 rintro ⟨x75, x78⟩ _ S73 _ ⟨e74, v76, v79, q77, rfl, rfl⟩ out1 h hf1 K1 hK1 hx80
 rw [proof_Make_s1] at h
 refine G.seq (fun _ hK83 => ?_)
 refine sr (fun _ hK84 => ?_)
 refine mv ?_
 refine vl (Y.lenS rfl q77 slc35) ?_
 refine vl (Y.gtI rfl rfl) ?_
 refine nt hK84 ?_
 refine G.cond _ rfl (fun c85 => ?_) (fun c85 => ?_)
 ·replace h := ite_t c85 h
  refine sk hK83 ?_
  refine G.block ?_
  refine sr (fun _ hK86 => ?_)
  refine mv ?_
  obtain ⟨t87, wt87, h⟩ := bind_some' h
  refine st (cl fb45 (proof_pair_ok (proof_item k) (fun S₁ e₁ a₁ v₁ q₁ r₁ h₁ => proof_item_ok k a₁ q₁ h₁) x75 q77 wt87) (fun v88 S89 e90 z91 => ?_))
  replace q77 := q77.up e90
  obtain rfl := z91
  refine st (OS.alloc _ (by decide) zero31 (fun ad92 => ?_))
  refine sf 0 8 [sV (.int .i64 t87.l.len), sL t87.l.bits, sL t87.l.sum, sV (.int .i64 t87.l.at_), sV (.int .i64 t87.r.len), sL t87.r.bits, sL t87.r.sum, sV (.int .i64 t87.r.at_)] (aggV_cells _) (oI (oL (oL (oI (oI (oL (oL (oI oN)))))))) size31 ?_
  refine nt hK86 ?_
  refine sr (fun _ hK94 => ?_)
  refine lb 0 0 8 [sV (.int .i64 t87.l.len), sL t87.l.bits, sL t87.l.sum, sV (.int .i64 t87.l.at_), sV (.int .i64 t87.r.len), sL t87.r.bits, sL t87.r.sum, sV (.int .i64 t87.r.at_)] row31 ?_
  obtain ⟨t95, wt95, h⟩ := bind_some' h
  refine st (cl fb46 (node_Inner_Item_ok t87 wt95) (fun v96 S97 e98 z99 => ?_))
  replace q77 := q77.up e98
  obtain rfl := z99
  refine st (OS.alloc _ (by decide) zero29 (fun ad100 => ?_))
  refine sf 0 4 [sV (.int .i64 t95.len), sL t95.bits, sL t95.sum, sV (.int .i64 t95.at_)] (aggV_cells _) (oI (oL (oL (oI oN)))) size29 ?_
  refine nt hK94 ?_
  refine G.seq (fun _ hK102 => ?_)
  refine sr (fun _ hK103 => ?_)
  refine vl (Y.fieldAddr 0 rfl fld29_0 rfl) ?_
  refine lb 0 0 2 [sV (.int .i64 t95.len), sL t95.bits] row27 ?_
  refine lb 4 0 1 [sL a1] row23 ?_
  obtain ⟨t104, wt104, h⟩ := bind_some' h
  refine st (cl fb54 (bits_Prefix_Has_ok (⟨t95.len, t95.bits⟩ : Pfx) a1 wt104) (fun v105 S106 e107 z108 => ?_))
  replace q77 := q77.up e107
  obtain rfl := z108
  refine vl (Y.not rfl) ?_
  refine nt hK103 ?_
  refine G.cond _ rfl (fun c109 => ?_) (fun c109 => ?_)
  ·replace h := ite_t c109 h
   refine sr (fun _ hK110 => ?_)
   refine mv ?_
   obtain ⟨t111, wt111, h⟩ := bind_some' h
   refine st (OS.callP 2 _ (by decide) rfl fb144 rfl (slices_Reverse_Item_ok x78 wt111) (fun v112 S113 _ e114 z115 => ?_))
   replace q77 := q77.up e114
   obtain ⟨rfl, rfl⟩ := z115
   refine nt hK110 ?_
   refine sr (fun _ hK116 => ?_)
   refine lb 1 0 8 [sV (.int .i64 t87.l.len), sL t87.l.bits, sL t87.l.sum, sV (.int .i64 t87.l.at_), sV (.int .i64 t87.r.len), sL t87.r.bits, sL t87.r.sum, sV (.int .i64 t87.r.at_)] row31 ?_
   refine mv ?_
   refine GO.rowOne 2 rfl (fun z117 => ?_)
   refine vl (Y.buildE _ [sV (.int .i64 (2 : Int)), sL zL, sL zL, sV (.int .i64 0), sV (.int .i64 t87.l.len), sL t87.l.bits, sL t87.l.sum, sV (.int .i64 t87.l.at_), sV (.int .i64 t87.r.len), sL t87.r.bits, sL t87.r.sum, sV (.int .i64 t87.r.at_), sV v79] strt34 zero34 rfl (.cons 0 1 [sV (.int .i64 (2 : Int))] rfl rfl rfl rfl rfl (.cons 4 8 [sV (.int .i64 t87.l.len), sL t87.l.bits, sL t87.l.sum, sV (.int .i64 t87.l.at_), sV (.int .i64 t87.r.len), sL t87.r.bits, sL t87.r.sum, sV (.int .i64 t87.r.at_)] rfl (aggV_cells _) rfl rfl rfl (.cons 12 1 [sV v79] rfl (cells_one z117) rfl rfl rfl .nil)))) ?_
   refine GO.rowOne 2 rfl (fun z118 => ?_)
   refine sf 3 13 [sV (.int .i64 (2 : Int)), sL zL, sL zL, sV (.int .i64 0), sV (.int .i64 t87.l.len), sL t87.l.bits, sL t87.l.sum, sV (.int .i64 t87.l.at_), sV (.int .i64 t87.r.len), sL t87.r.bits, sL t87.r.sum, sV (.int .i64 t87.r.at_), sV v79] (aggV_cells _) (oI (oL (oL (oI (oI (oL (oL (oI (oI (oL (oL (oI (oV (z118) oN))))))))))))) size34 ?_
   refine an ?_
   refine nt hK116 ?_
   refine G.ret ?_
   refine GX.shareR 2 rfl (fun S119 e120 q121 => ?_)
   replace q77 := q77.up e120
   obtain rfl := Option.some.inj h
   obtain rfl := hf1 _ rfl
   have h := ho82
   try dsimp only at h
   obtain rfl := Option.some.inj h
   exact hret _ _ _ _ 5 (l2 e10 (l2 e19 (l2 e26 (l2 e74 (l2 e90 (l2 e98 (l2 e107 (l2 e114 e120)))))))) (.cons (.row (k := 3) rfl rfl row34 (by kernel_rfl)) (.cons (.tmp rfl) .nil)) ⟨_, rfl, q121⟩ rfl
  replace h := ite_f c109 h
  refine sk hK102 ?_
  refine sr (fun _ hK122 => ?_)
  refine mv ?_
  refine vl (Y.fieldAddr 0 rfl fld29_0 rfl) ?_
  refine vl (Y.fieldAddr 0 rfl fld27_0 rfl) ?_
  refine lv 0 0 one3 ?_
  obtain ⟨t123, wt123, h⟩ := bind_some' h
  refine st (cl fb47 (proof_sides_ok x75 t95.len q77 wt123) (fun v124 S125 e126 z127 => ?_))
  replace q77 := q77.up e126
  obtain ⟨v128, v130, rfl, q129, q131⟩ := z127
  refine mv ?_
  refine vl (Y.extract _ rfl rfl) ?_
  refine vl (Y.extract _ rfl rfl) ?_
  refine an ?_
  refine an ?_
  refine nt hK122 ?_
  refine G.seq (fun _ hK132 => ?_)
  refine sr (fun _ hK133 => ?_)
  refine lb 4 0 1 [sL a1] row23 ?_
  refine vl (Y.fieldAddr 0 rfl fld29_0 rfl) ?_
  refine vl (Y.fieldAddr 0 rfl fld27_0 rfl) ?_
  refine lv 0 0 one3 ?_
  obtain ⟨t134, wt134, h⟩ := bind_some' h
  refine st (cl fb48 (bits_Bit_ok a1 t95.len wt134) (fun v135 S136 e137 z138 => ?_))
  replace q77 := q77.up e137
  replace q129 := q129.up e137
  replace q131 := q131.up e137
  obtain rfl := z138
  refine vl (Y.eqI rfl rfl) ?_
  refine nt hK133 ?_
  refine G.cond _ rfl (fun c139 => ?_) (fun c139 => ?_)
  ·replace h := ite_t c139 h
   refine G.region ?_
   refine mv ?_
   refine mv ?_
   refine an ?_
   refine an ?_
   refine nt hK132 ?_
   refine sr (fun _ hK140 => ?_)
   refine mv ?_
   refine mv ?_
   obtain ⟨t141, wt141, h⟩ := bind_some' h
   refine st (cl fb125 (proof_item_ok k t123.1 q129 wt141) (fun v142 S143 e144 z145 => ?_))
   replace q77 := q77.up e144
   replace q129 := q129.up e144
   replace q131 := q131.up e144
   obtain rfl := z145
   refine bs ([t141] : List Item) el32 (fun v146 => ?_)
   obtain ⟨g148, h⟩ := req_bind h
   refine st (OS.append (xs := x78) (ys := ([t141] : List Item)) 3 (by decide) rfl rfl rfl (Rw.src (k := 0) rfl) el32 src32 g148 (fun v149 => ?_))
   refine an ?_
   refine nt hK140 ?_
   refine G.region ?_
   refine mv ?_
   refine an ?_
   refine GO.nil ?_
   refine GX.normal_block ?_
   obtain rfl := Option.some.inj h
   refine GX.keep [8, 6, 4, 3] rfl ?_
   refine GX.less 3 rfl ?_
   exact hK1 _ _ _ _ rfl ⟨(l2 e74 (l2 e90 (l2 e98 (l2 e107 (l2 e126 (l2 e137 e144)))))), v130, v149, q131, rfl, rfl⟩
  replace h := ite_f c139 h
  refine sk hK132 ?_
  refine sr (fun _ hK150 => ?_)
  refine mv ?_
  refine mv ?_
  obtain ⟨t151, wt151, h⟩ := bind_some' h
  refine st (cl fb125 (proof_item_ok k t123.2 q131 wt151) (fun v152 S153 e154 z155 => ?_))
  replace q77 := q77.up e154
  replace q129 := q129.up e154
  replace q131 := q131.up e154
  obtain rfl := z155
  refine bs ([t151] : List Item) el32 (fun v156 => ?_)
  obtain ⟨g158, h⟩ := req_bind h
  refine st (OS.append (xs := x78) (ys := ([t151] : List Item)) 3 (by decide) rfl rfl rfl (Rw.src (k := 0) rfl) el32 src32 g158 (fun v159 => ?_))
  refine an ?_
  refine nt hK150 ?_
  refine G.region ?_
  refine mv ?_
  refine an ?_
  refine GO.nil ?_
  refine GX.normal_block ?_
  obtain rfl := Option.some.inj h
  refine GX.keep [8, 6, 4, 3] rfl ?_
  refine GX.less 3 rfl ?_
  exact hK1 _ _ _ _ rfl ⟨(l2 e74 (l2 e90 (l2 e98 (l2 e107 (l2 e126 (l2 e137 e154)))))), v128, v159, q129, rfl, rfl⟩
 replace h := ite_f c85 h
 refine G.exit ?_
 refine GX.exit_then ?_
 obtain rfl := Option.some.inj h
 refine GX.keep [8, 6, 4] rfl ?_
 exact hx80 _ _ _ ⟨_, _, _, _, e74, (hf1 _ rfl).symm, q77, rfl, rfl⟩

end
end Go.Ch
end
section
/- Functions of the program: what each comes to, proved. -/
set_option linter.unusedVariables false
set_option linter.unusedSimpArgs false
set_option maxRecDepth 100000
set_option maxHeartbeats 4000000
namespace Go.Ch
open Go.RowKit (wrap64)
open Go.Proofs
noncomputable section
/- chirograph/chirographlaw18.Cut -/
def l18_Cut  (a0 : Proof) : Option Proof :=
 (if (decide ((300 : Int) < (lenI a0.path))) = true then ((req ((0 : Int) ≤ 0 ∧ 0 ≤ (300 : Int) ∧ (300 : Int) ≤ lenI a0.path)).bind fun _ => some (⟨a0.end_, a0.leaf, a0.a, a0.b, (cutL a0.path 0 (300 : Int))⟩ : Proof)) else some a0)

theorem l18_Cut_ok {S : Hp} (a0 : Proof) {v1 : Value} (q2 : Sls S v1 a0.path) {r : Proof} (h : l18_Cut a0 = some r) : Fn Tryz.prog 6 [aggV [sV (.int .i64 a0.end_), sL a0.leaf.label, sL a0.leaf.value, sV (.int .i64 a0.leaf.at_), sV (.int .i64 a0.a.len), sL a0.a.bits, sL a0.a.sum, sV (.int .i64 a0.a.at_), sV (.int .i64 a0.b.len), sL a0.b.bits, sL a0.b.sum, sV (.int .i64 a0.b.at_), sV v1]] S (fun v S' => ∃ (v16 : Value), v = aggV [sV (.int .i64 r.end_), sL r.leaf.label, sL r.leaf.value, sV (.int .i64 r.leaf.at_), sV (.int .i64 r.a.len), sL r.a.bits, sL r.a.sum, sV (.int .i64 r.a.at_), sV (.int .i64 r.b.len), sL r.b.bits, sL r.b.sum, sV (.int .i64 r.b.at_), sV v16] ∧ Sls S' v16 r.path) := by
 unfold l18_Cut at h
 refine fo [.cell 2 34] 12 Tryz.func6 Tryz.ntmps6 (fun o F Q hQ hN hret => ?_)
 refine sr (fun _ hK3 => ?_)
 refine st (OS.boxA (by decide) rfl (fun ad4 => ?_))
 refine st (OS.alloc _ (by decide) zero34 (fun ad6 => ?_))
 refine nt hK3 ?_
 refine G.seq (fun _ hK8 => ?_)
 refine sr (fun _ hK9 => ?_)
 refine vl (Y.fieldAddr 198 rfl fld34_3 rfl) ?_
 refine lv 1 12 one32 ?_
 refine vl (Y.lenS rfl q2 slc32) ?_
 refine vl (Y.gtI rfl rfl) ?_
 refine nt hK9 ?_
 refine G.cond _ rfl (fun c10 => ?_) (fun c10 => ?_)
 ·replace h := ite_t c10 h
  refine G.region ?_
  refine vl (Y.fieldAddr 198 rfl fld34_3 rfl) ?_
  refine lv 1 12 one32 ?_
  obtain ⟨g11, h⟩ := req_bind h
  refine st (OS.sliceS 0 (300 : Int) none (some (.int .i64 (300 : Int))) (by decide) rfl q2 slc32 rfl rfl (.inl ⟨rfl, rfl⟩) (.inr ⟨_, rfl⟩) g11 (fun v12 q13 => ?_))
  refine vl (Y.fieldAddr 198 rfl fld34_3 rfl) ?_
  refine so 1 12 1 [sV (.int .i64 a0.end_), sL a0.leaf.label, sL a0.leaf.value, sV (.int .i64 a0.leaf.at_), sV (.int .i64 a0.a.len), sL a0.a.bits, sL a0.a.sum, sV (.int .i64 a0.a.at_), sV (.int .i64 a0.b.len), sL a0.b.bits, sL a0.b.sum, sV (.int .i64 a0.b.at_), sV v12] (r := [sV v12]) q13.cells (oV (q13.one) oN) size32 ?_
  refine nt hK8 ?_
  refine sr (fun _ hK14 => ?_)
  refine lb 1 0 13 [sV (.int .i64 a0.end_), sL a0.leaf.label, sL a0.leaf.value, sV (.int .i64 a0.leaf.at_), sV (.int .i64 a0.a.len), sL a0.a.bits, sL a0.a.sum, sV (.int .i64 a0.a.at_), sV (.int .i64 a0.b.len), sL a0.b.bits, sL a0.b.sum, sV (.int .i64 a0.b.at_), sV v12] row34 ?_
  refine sf 0 13 [sV (.int .i64 a0.end_), sL a0.leaf.label, sL a0.leaf.value, sV (.int .i64 a0.leaf.at_), sV (.int .i64 a0.a.len), sL a0.a.bits, sL a0.a.sum, sV (.int .i64 a0.a.at_), sV (.int .i64 a0.b.len), sL a0.b.bits, sL a0.b.sum, sV (.int .i64 a0.b.at_), sV v12] (aggV_cells _) (oI (oL (oL (oI (oI (oL (oL (oI (oI (oL (oL (oI (oV (q13.one) oN))))))))))))) size34 ?_
  refine nt hK14 ?_
  refine G.ret ?_
  obtain rfl := Option.some.inj h
  exact hret _ _ _ _ 2 l0 (.cons (.row (k := 0) rfl rfl row34 (by kernel_rfl)) .nil) ⟨_, rfl, q13⟩ rfl
 replace h := ite_f c10 h
 refine sk hK8 ?_
 refine sr (fun _ hK15 => ?_)
 refine lb 1 0 13 [sV (.int .i64 a0.end_), sL a0.leaf.label, sL a0.leaf.value, sV (.int .i64 a0.leaf.at_), sV (.int .i64 a0.a.len), sL a0.a.bits, sL a0.a.sum, sV (.int .i64 a0.a.at_), sV (.int .i64 a0.b.len), sL a0.b.bits, sL a0.b.sum, sV (.int .i64 a0.b.at_), sV v1] row34 ?_
 refine sf 0 13 [sV (.int .i64 a0.end_), sL a0.leaf.label, sL a0.leaf.value, sV (.int .i64 a0.leaf.at_), sV (.int .i64 a0.a.len), sL a0.a.bits, sL a0.a.sum, sV (.int .i64 a0.a.at_), sV (.int .i64 a0.b.len), sL a0.b.bits, sL a0.b.sum, sV (.int .i64 a0.b.at_), sV v1] (aggV_cells _) (oI (oL (oL (oI (oI (oL (oL (oI (oI (oL (oL (oI (oV (q2.one) oN))))))))))))) size34 ?_
 refine nt hK15 ?_
 refine G.ret ?_
 obtain rfl := Option.some.inj h
 exact hret _ _ _ _ 2 l0 (.cons (.row (k := 0) rfl rfl row34 (by kernel_rfl)) .nil) ⟨_, rfl, q2⟩ rfl

/- chirograph/chirographlaw18.Told -/
def l18_Told  (a0 : Proof) : Option Proof :=
 ((l15_Told a0.a).bind fun t9 => ((l15_Told a0.b).bind fun t15 => ((l16_Told a0.path (300 : Int)).bind fun t21 => some (⟨a0.end_, a0.leaf, t9, t15, t21⟩ : Proof))))

theorem l18_Told_ok {S : Hp} (a0 : Proof) {v1 : Value} (q2 : Sls S v1 a0.path) {r : Proof} (h : l18_Told a0 = some r) : Fn Tryz.prog 10 [aggV [sV (.int .i64 a0.end_), sL a0.leaf.label, sL a0.leaf.value, sV (.int .i64 a0.leaf.at_), sV (.int .i64 a0.a.len), sL a0.a.bits, sL a0.a.sum, sV (.int .i64 a0.a.at_), sV (.int .i64 a0.b.len), sL a0.b.bits, sL a0.b.sum, sV (.int .i64 a0.b.at_), sV v1]] S (fun v S' => ∃ (v46 : Value), v = aggV [sV (.int .i64 r.end_), sL r.leaf.label, sL r.leaf.value, sV (.int .i64 r.leaf.at_), sV (.int .i64 r.a.len), sL r.a.bits, sL r.a.sum, sV (.int .i64 r.a.at_), sV (.int .i64 r.b.len), sL r.b.bits, sL r.b.sum, sV (.int .i64 r.b.at_), sV v46] ∧ Sls S' v46 r.path) := by
 unfold l18_Told at h
 refine fo [.cell 2 48] 19 Tryz.func10 Tryz.ntmps10 (fun o F Q hQ hN hret => ?_)
 refine sr (fun _ hK3 => ?_)
 refine st (OS.boxA (by decide) rfl (fun ad4 => ?_))
 refine st (OS.alloc _ (by decide) zero48 (fun ad6 => ?_))
 refine nt hK3 ?_
 refine G.seq (fun _ hK8 => ?_)
 obtain ⟨t9, wt9, h⟩ := bind_some' h
 obtain ⟨t15, wt15, h⟩ := bind_some' h
 obtain ⟨t21, wt21, h⟩ := bind_some' h
 refine G.drawS 16 _ ((fun _ => True) :: Blk ad4 [sV (.int .i64 a0.end_), sL a0.leaf.label, sL a0.leaf.value, sV (.int .i64 a0.leaf.at_), sV (.int .i64 a0.a.len), sL a0.a.bits, sL a0.a.sum, sV (.int .i64 a0.a.at_), sV (.int .i64 a0.b.len), sL a0.b.bits, sL a0.b.sum, sV (.int .i64 a0.b.at_), sV v1] :: F) mixed .refl (by kernel_rfl) ?_
 refine tx 0 rfl (.lose .refl) hQ (fun _ _ _ => Y.fieldAddr 0 rfl fld34_0 rfl) ?_
 refine tx 1 rfl (.lose .refl) hQ (fun S₀ X₀ e₀ => Y.loadV (X₀.length + 1)  0 _ rfl (Lk rfl) rfl rfl one3) ?_
 refine tx 2 rfl (.lose .refl) hQ (fun _ _ _ => Y.fieldAddr 1 rfl fld34_1 rfl) ?_
 refine tx 3 rfl (.lose .refl) hQ (fun S₀ X₀ e₀ => Y.loadB (X₀.length + 1)  1 3 [sL a0.leaf.label, sL a0.leaf.value, sV (.int .i64 a0.leaf.at_)] rfl (Lk rfl) rfl rfl row25 (by kernel_rfl)) ?_
 refine tx 4 rfl (.lose .refl) hQ (fun _ _ _ => Y.fieldAddr 66 rfl fld34_2 rfl) ?_
 refine tx 5 rfl (.lose .refl) hQ (fun _ _ _ => Y.fieldAddr 66 rfl fld31_0 rfl) ?_
 refine tx 6 rfl (.lose .refl) hQ (fun S₀ X₀ e₀ => Y.loadB (X₀.length + 1)  4 4 [sV (.int .i64 a0.a.len), sL a0.a.bits, sL a0.a.sum, sV (.int .i64 a0.a.at_)] rfl (Lk rfl) rfl rfl row29 (by kernel_rfl)) ?_
 refine tx 8 rfl (.lose .refl) hQ (fun _ _ _ => Y.fieldAddr 66 rfl fld34_2 rfl) ?_
 refine tx 9 rfl (.lose .refl) hQ (fun _ _ _ => Y.fieldAddr 132 rfl fld31_1 rfl) ?_
 refine tx 10 rfl (.lose .refl) hQ (fun S₀ X₀ e₀ => Y.loadB (X₀.length + 1)  8 4 [sV (.int .i64 a0.b.len), sL a0.b.bits, sL a0.b.sum, sV (.int .i64 a0.b.at_)] rfl (Lk rfl) rfl rfl row29 (by kernel_rfl)) ?_
 refine tx 12 rfl (.lose .refl) hQ (fun _ _ _ => Y.fieldAddr 198 rfl fld34_3 rfl) ?_
 refine tx 13 rfl (.lose .refl) hQ (fun S₀ X₀ e₀ => Y.loadV (X₀.length + 1)  12 _ rfl (Lk rfl) rfl rfl one32) ?_
 refine g1 7 ?_
 refine n1 rfl (cl fb40 (l15_Told_ok a0.a wt9) (fun v29 S30 e31 z32 => ⟨⟨[], .refl, e31⟩, ?_⟩))
 have q33 := q2.up e31
 obtain rfl := z32
 refine g1 11 ?_
 refine n1 rfl (cl fb40 (l15_Told_ok a0.b wt15) (fun v34 S35 e36 z37 => ⟨⟨[], .refl, (l2 e31 e36)⟩, ?_⟩))
 have q38 := q33.up e36
 obtain rfl := z37
 refine g1 14 ?_
 refine n1 rfl (cl fb41 (l16_Told_ok a0.path (300 : Int) q38 wt21) (fun v39 S40 e41 z42 => ⟨⟨[], .refl, (l2 e31 (l2 e36 e41))⟩, ?_⟩))
 have q43 := q38.up e41
 have q45 := z42
 refine tx 15 rfl (.lose .refl) hQ (fun _ _ _ => Y.buildE _ [sV (.int .i64 a0.end_), sL a0.leaf.label, sL a0.leaf.value, sV (.int .i64 a0.leaf.at_), sV (.int .i64 t9.len), sL t9.bits, sL t9.sum, sV (.int .i64 t9.at_), sV (.int .i64 t15.len), sL t15.bits, sL t15.sum, sV (.int .i64 t15.at_), sV v39] strt48 zero48 rfl (.cons 0 1 [sV (.int .i64 a0.end_)] rfl rfl rfl rfl rfl (.cons 1 3 [sL a0.leaf.label, sL a0.leaf.value, sV (.int .i64 a0.leaf.at_)] rfl (aggV_cells _) rfl rfl rfl (.cons 4 4 [sV (.int .i64 t9.len), sL t9.bits, sL t9.sum, sV (.int .i64 t9.at_)] rfl (aggV_cells _) rfl rfl rfl (.cons 8 4 [sV (.int .i64 t15.len), sL t15.bits, sL t15.sum, sV (.int .i64 t15.at_)] rfl (aggV_cells _) rfl rfl rfl (.cons 12 1 [sV v39] rfl q45.cells rfl rfl rfl .nil)))))) ?_
 refine g1 16 ?_
 refine n2 rfl (OS.store 0 0 13 [sV (.int .i64 a0.end_), sL a0.leaf.label, sL a0.leaf.value, sV (.int .i64 a0.leaf.at_), sV (.int .i64 t9.len), sL t9.bits, sL t9.sum, sV (.int .i64 t9.at_), sV (.int .i64 t15.len), sL t15.bits, sL t15.sum, sV (.int .i64 t15.at_), sV v39] (r := [sV (.int .i64 a0.end_), sL a0.leaf.label, sL a0.leaf.value, sV (.int .i64 a0.leaf.at_), sV (.int .i64 t9.len), sL t9.bits, sL t9.sum, sV (.int .i64 t9.at_), sV (.int .i64 t15.len), sL t15.bits, sL t15.sum, sV (.int .i64 t15.at_), sV v39]) rfl rfl (aggV_cells _) (oI (oL (oL (oI (oI (oL (oL (oI (oI (oL (oL (oI (oV (q45.one) oN))))))))))))) rfl rfl size48 (by kernel_rfl) (by kernel_rfl) (by kernel_rfl) ⟨⟨[], (.lose .refl), (l2 e31 (l2 e36 e41))⟩, ?_⟩)
 refine dn ?_
 refine GX.then hK8 ?_
 refine G.ret ?_
 obtain rfl := Option.some.inj h
 exact hret _ _ _ _ 2 (l2 e31 (l2 e36 e41)) (.cons (.row (k := 0) rfl rfl row48 (by kernel_rfl)) .nil) ⟨_, rfl, q45⟩ rfl

/- chirograph/chirographlaw18.awake -/
def l18_awake (k : Nat)  : Option Bool :=
 ((patch_Of k ([(⟨zL, zL, 0⟩ : Leaf), (⟨(setV zL 0 64), zL, (5 : Int)⟩ : Leaf), (⟨(setV zL 0 128), zL, 0⟩ : Leaf)] : List Leaf)).bind fun t9 => ((patch_Top k t9).bind fun t16 => ((proof_Make k ([(⟨zL, zL, 0⟩ : Leaf), (⟨(setV zL 0 64), zL, (5 : Int)⟩ : Leaf), (⟨(setV zL 0 128), zL, 0⟩ : Leaf)] : List Leaf) (setV zL 0 64)).bind fun t24 => ((proof_Check t16.1 (setV zL 0 64) t24.1).bind fun t34 => ((proof_Make k ([(⟨zL, zL, 0⟩ : Leaf), (⟨(setV zL 0 64), zL, (5 : Int)⟩ : Leaf), (⟨(setV zL 0 128), zL, 0⟩ : Leaf)] : List Leaf) (setV zL 0 192)).bind fun t42 => ((proof_Check t16.1 (setV zL 0 192) t42.1).bind fun t52 => ((if (t16.2 == (0 : Int)) = true then some (t24.2 == (0 : Int)) else some false).bind fun b60 => ((if b60 = true then some (t34.2.2 == (0 : Int)) else some false).bind fun b65 => ((if b65 = true then some t34.2.1 else some false).bind fun b70 => ((if b70 = true then some (t34.1.at_ == (5 : Int)) else some false).bind fun b75 => ((if b75 = true then some ((lenI t24.1.path) == (2 : Int)) else some false).bind fun b80 => ((if b80 = true then some (t42.2 == (0 : Int)) else some false).bind fun b85 => ((if b85 = true then some (t52.2.2 == (0 : Int)) else some false).bind fun b90 => ((if b90 = true then some (!t52.2.1) else some false).bind fun b95 => some b95))))))))))))))

theorem l18_awake_ok {S : Hp} (k : Nat) {r : Bool} (h : l18_awake k = some r) : Fn Tryz.prog 18 [] S (fun v S' => v = .bool r) := by
 unfold l18_awake at h
 refine fo [.tmp 0] 90 Tryz.func18 Tryz.ntmps18 (fun o F Q hQ hN hret => ?_)
 refine sr (fun _ hK1 => ?_)
 refine an ?_
 refine nt hK1 ?_
 refine sr (fun _ hK2 => ?_)
 refine vl (Y.buildE _ [sL zL, sL zL, sV (.int .i64 0)] strt25 zero25 rfl .nil) ?_
 refine vl (Y.buildA [u8V 64] [sL (setV zL 0 64)] arr23 zero23 rfl (by kernel_rfl) (by kernel_rfl)) ?_
 refine vl (Y.buildE _ [sL (setV zL 0 64), sL zL, sV (.int .i64 (5 : Int))] strt25 zero25 rfl (.cons 0 1 [sL (setV zL 0 64)] rfl (aggV_cells _) rfl rfl rfl (.cons 2 1 [sV (.int .i64 (5 : Int))] rfl rfl rfl rfl rfl .nil))) ?_
 refine vl (Y.buildA [u8V 128] [sL (setV zL 0 128)] arr23 zero23 rfl (by kernel_rfl) (by kernel_rfl)) ?_
 refine vl (Y.buildE _ [sL (setV zL 0 128), sL zL, sV (.int .i64 0)] strt25 zero25 rfl (.cons 0 1 [sL (setV zL 0 128)] rfl (aggV_cells _) rfl rfl rfl .nil)) ?_
 refine bs ([(⟨zL, zL, 0⟩ : Leaf), (⟨(setV zL 0 64), zL, (5 : Int)⟩ : Leaf), (⟨(setV zL 0 128), zL, 0⟩ : Leaf)] : List Leaf) el35 (fun v3 => ?_)
 refine an ?_
 refine nt hK2 ?_
 refine sr (fun _ hK5 => ?_)
 refine mv ?_
 obtain ⟨t9, wt9, h⟩ := bind_some' h
 refine GO.shareR 0 rfl (fun S6 e7 q8 => ?_)
 refine st (cl fb44 (patch_Of_ok k ([(⟨zL, zL, 0⟩ : Leaf), (⟨(setV zL 0 64), zL, (5 : Int)⟩ : Leaf), (⟨(setV zL 0 128), zL, 0⟩ : Leaf)] : List Leaf) q8 wt9) (fun v10 S11 e12 z13 => ?_))
 replace q8 := q8.up e12
 have q15 := z13
 obtain ⟨t16, wt16, h⟩ := bind_some' h
 refine st (cl fb67 (patch_Top_ok k t9 q15 wt16) (fun v17 S18 e19 z20 => ?_))
 replace q8 := q8.up e19
 replace q15 := q15.up e19
 obtain rfl := z20
 refine mv ?_
 refine vl (Y.extract _ rfl rfl) ?_
 refine vl (Y.extract _ rfl rfl) ?_
 refine st (OS.alloc _ (by decide) zero23 (fun ad21 => ?_))
 refine sf 0 1 [sL t16.1] (aggV_cells _) (oL oN) size23 ?_
 refine an ?_
 refine nt hK5 ?_
 refine sr (fun _ hK23 => ?_)
 refine mv ?_
 refine vl (Y.buildA [u8V 64] [sL (setV zL 0 64)] arr23 zero23 rfl (by kernel_rfl) (by kernel_rfl)) ?_
 obtain ⟨t24, wt24, h⟩ := bind_some' h
 refine st (cl fb68 (proof_Make_ok k ([(⟨zL, zL, 0⟩ : Leaf), (⟨(setV zL 0 64), zL, (5 : Int)⟩ : Leaf), (⟨(setV zL 0 128), zL, 0⟩ : Leaf)] : List Leaf) (setV zL 0 64) q8 wt24) (fun v25 S26 e27 z28 => ?_))
 replace q8 := q8.up e27
 replace q15 := q15.up e27
 obtain ⟨v29, rfl, q30⟩ := z28
 refine mv ?_
 refine vl (Y.extract _ rfl rfl) ?_
 refine vl (Y.extract _ rfl rfl) ?_
 refine st (OS.alloc _ (by decide) zero34 (fun ad31 => ?_))
 refine sf 0 13 [sV (.int .i64 t24.1.end_), sL t24.1.leaf.label, sL t24.1.leaf.value, sV (.int .i64 t24.1.leaf.at_), sV (.int .i64 t24.1.a.len), sL t24.1.a.bits, sL t24.1.a.sum, sV (.int .i64 t24.1.a.at_), sV (.int .i64 t24.1.b.len), sL t24.1.b.bits, sL t24.1.b.sum, sV (.int .i64 t24.1.b.at_), sV v29] (aggV_cells _) (oI (oL (oL (oI (oI (oL (oL (oI (oI (oL (oL (oI (oV (q30.one) oN))))))))))))) size34 ?_
 refine an ?_
 refine nt hK23 ?_
 refine sr (fun _ hK33 => ?_)
 refine lb 1 0 1 [sL t16.1] row23 ?_
 refine vl (Y.buildA [u8V 64] [sL (setV zL 0 64)] arr23 zero23 rfl (by kernel_rfl) (by kernel_rfl)) ?_
 refine lb 0 0 13 [sV (.int .i64 t24.1.end_), sL t24.1.leaf.label, sL t24.1.leaf.value, sV (.int .i64 t24.1.leaf.at_), sV (.int .i64 t24.1.a.len), sL t24.1.a.bits, sL t24.1.a.sum, sV (.int .i64 t24.1.a.at_), sV (.int .i64 t24.1.b.len), sL t24.1.b.bits, sL t24.1.b.sum, sV (.int .i64 t24.1.b.at_), sV v29] row34 ?_
 obtain ⟨t34, wt34, h⟩ := bind_some' h
 refine st (cl fb8 (proof_Check_ok t16.1 (setV zL 0 64) t24.1 q30 wt34) (fun v35 S36 e37 z38 => ?_))
 replace q8 := q8.up e37
 replace q15 := q15.up e37
 replace q30 := q30.up e37
 obtain rfl := z38
 refine mv ?_
 refine vl (Y.extract _ rfl rfl) ?_
 refine vl (Y.extract _ rfl rfl) ?_
 refine vl (Y.extract _ rfl rfl) ?_
 refine st (OS.alloc _ (by decide) zero25 (fun ad39 => ?_))
 refine sf 0 3 [sL t34.1.label, sL t34.1.value, sV (.int .i64 t34.1.at_)] (aggV_cells _) (oL (oL (oI oN))) size25 ?_
 refine an ?_
 refine an ?_
 refine nt hK33 ?_
 refine sr (fun _ hK41 => ?_)
 refine mv ?_
 refine vl (Y.buildA [u8V 192] [sL (setV zL 0 192)] arr23 zero23 rfl (by kernel_rfl) (by kernel_rfl)) ?_
 obtain ⟨t42, wt42, h⟩ := bind_some' h
 refine st (cl fb68 (proof_Make_ok k ([(⟨zL, zL, 0⟩ : Leaf), (⟨(setV zL 0 64), zL, (5 : Int)⟩ : Leaf), (⟨(setV zL 0 128), zL, 0⟩ : Leaf)] : List Leaf) (setV zL 0 192) q8 wt42) (fun v43 S44 e45 z46 => ?_))
 replace q8 := q8.up e45
 replace q15 := q15.up e45
 replace q30 := q30.up e45
 obtain ⟨v47, rfl, q48⟩ := z46
 refine mv ?_
 refine vl (Y.extract _ rfl rfl) ?_
 refine vl (Y.extract _ rfl rfl) ?_
 refine st (OS.alloc _ (by decide) zero34 (fun ad49 => ?_))
 refine sf 0 13 [sV (.int .i64 t42.1.end_), sL t42.1.leaf.label, sL t42.1.leaf.value, sV (.int .i64 t42.1.leaf.at_), sV (.int .i64 t42.1.a.len), sL t42.1.a.bits, sL t42.1.a.sum, sV (.int .i64 t42.1.a.at_), sV (.int .i64 t42.1.b.len), sL t42.1.b.bits, sL t42.1.b.sum, sV (.int .i64 t42.1.b.at_), sV v47] (aggV_cells _) (oI (oL (oL (oI (oI (oL (oL (oI (oI (oL (oL (oI (oV (q48.one) oN))))))))))))) size34 ?_
 refine an ?_
 refine nt hK41 ?_
 refine sr (fun _ hK51 => ?_)
 refine lb 3 0 1 [sL t16.1] row23 ?_
 refine vl (Y.buildA [u8V 192] [sL (setV zL 0 192)] arr23 zero23 rfl (by kernel_rfl) (by kernel_rfl)) ?_
 refine lb 0 0 13 [sV (.int .i64 t42.1.end_), sL t42.1.leaf.label, sL t42.1.leaf.value, sV (.int .i64 t42.1.leaf.at_), sV (.int .i64 t42.1.a.len), sL t42.1.a.bits, sL t42.1.a.sum, sV (.int .i64 t42.1.a.at_), sV (.int .i64 t42.1.b.len), sL t42.1.b.bits, sL t42.1.b.sum, sV (.int .i64 t42.1.b.at_), sV v47] row34 ?_
 obtain ⟨t52, wt52, h⟩ := bind_some' h
 refine st (cl fb8 (proof_Check_ok t16.1 (setV zL 0 192) t42.1 q48 wt52) (fun v53 S54 e55 z56 => ?_))
 replace q8 := q8.up e55
 replace q15 := q15.up e55
 replace q30 := q30.up e55
 replace q48 := q48.up e55
 obtain rfl := z56
 refine mv ?_
 refine vl (Y.extract _ rfl rfl) ?_
 refine vl (Y.extract _ rfl rfl) ?_
 refine vl (Y.extract _ rfl rfl) ?_
 refine st (OS.alloc _ (by decide) zero25 (fun ad57 => ?_))
 refine sf 0 3 [sL t52.1.label, sL t52.1.value, sV (.int .i64 t52.1.at_)] (aggV_cells _) (oL (oL (oI oN))) size25 ?_
 refine an ?_
 refine an ?_
 refine nt hK51 ?_
 refine sr (fun _ hK59 => ?_)
 refine mv ?_
 refine vl (Y.eqI rfl rfl) ?_
 refine mv ?_
 obtain ⟨b60, wb60, h⟩ := bind_some' h
 refine GO.joinB 3 59 (b60 = ·) (fun K62 hK62 => ?_) ?_
 ·replace h := wb60
  rcases Bool.eq_false_or_eq_true (t16.2 == (0 : Int)) with c61 | c61
  ·replace h := ite_t c61 h
   refine gv 56 c61 (Y.move rfl) ?_
   refine gv 56 c61 (Y.eqI rfl rfl) ?_
   refine vl (Y.pickT _ c61 rfl rfl) ?_
   refine GO.nil ?_
   refine p2 (p2 ?_)
   exact hK62 _ _ l0 (Option.some.inj h).symm
  replace h := ite_f c61 h
  refine gf 56 c61 ?_
  refine gf 56 c61 ?_
  refine vl (Y.pickF _ c61 rfl rfl) ?_
  refine GO.nil ?_
  refine p2 (p2 ?_)
  exact hK62 _ _ l0 (Option.some.inj h).symm
 rintro _ S63 e64 rfl
 replace q8 := q8.up e64
 replace q15 := q15.up e64
 replace q30 := q30.up e64
 replace q48 := q48.up e64
 refine mv ?_
 obtain ⟨b65, wb65, h⟩ := bind_some' h
 refine GO.joinB 3 63 (b65 = ·) (fun K67 hK67 => ?_) ?_
 ·replace h := wb65
  rcases Bool.eq_false_or_eq_true b60 with c66 | c66
  ·replace h := ite_t c66 h
   refine gv 60 c66 (Y.move rfl) ?_
   refine gv 60 c66 (Y.eqI rfl rfl) ?_
   refine vl (Y.pickT _ c66 rfl rfl) ?_
   refine GO.nil ?_
   refine p2 (p2 ?_)
   exact hK67 _ _ l0 (Option.some.inj h).symm
  replace h := ite_f c66 h
  refine gf 60 c66 ?_
  refine gf 60 c66 ?_
  refine vl (Y.pickF _ c66 rfl rfl) ?_
  refine GO.nil ?_
  refine p2 (p2 ?_)
  exact hK67 _ _ l0 (Option.some.inj h).symm
 rintro _ S68 e69 rfl
 replace q8 := q8.up e69
 replace q15 := q15.up e69
 replace q30 := q30.up e69
 replace q48 := q48.up e69
 refine mv ?_
 obtain ⟨b70, wb70, h⟩ := bind_some' h
 refine GO.joinB 2 66 (b70 = ·) (fun K72 hK72 => ?_) ?_
 ·replace h := wb70
  rcases Bool.eq_false_or_eq_true b65 with c71 | c71
  ·replace h := ite_t c71 h
   refine gv 64 c71 (Y.move rfl) ?_
   refine vl (Y.pickT _ c71 rfl rfl) ?_
   refine GO.nil ?_
   refine p2 ?_
   exact hK72 _ _ l0 (Option.some.inj h).symm
  replace h := ite_f c71 h
  refine gf 64 c71 ?_
  refine vl (Y.pickF _ c71 rfl rfl) ?_
  refine GO.nil ?_
  refine p2 ?_
  exact hK72 _ _ l0 (Option.some.inj h).symm
 rintro _ S73 e74 rfl
 replace q8 := q8.up e74
 replace q15 := q15.up e74
 replace q30 := q30.up e74
 replace q48 := q48.up e74
 refine mv ?_
 obtain ⟨b75, wb75, h⟩ := bind_some' h
 refine GO.joinB 4 71 (b75 = ·) (fun K77 hK77 => ?_) ?_
 ·replace h := wb75
  rcases Bool.eq_false_or_eq_true b70 with c76 | c76
  ·replace h := ite_t c76 h
   refine gv 67 c76 (Y.fieldAddr 64 rfl fld25_2 rfl) ?_
   refine gv 67 c76 (Y.loadV 2  2 _ rfl rfl rfl rfl one3) ?_
   refine gv 67 c76 (Y.eqI rfl rfl) ?_
   refine vl (Y.pickT _ c76 rfl rfl) ?_
   refine GO.nil ?_
   refine p2 (p2 (p2 ?_))
   exact hK77 _ _ l0 (Option.some.inj h).symm
  replace h := ite_f c76 h
  refine gf 67 c76 ?_
  refine gf 67 c76 ?_
  refine gf 67 c76 ?_
  refine vl (Y.pickF _ c76 rfl rfl) ?_
  refine GO.nil ?_
  refine p2 (p2 (p2 ?_))
  exact hK77 _ _ l0 (Option.some.inj h).symm
 rintro _ S78 e79 rfl
 replace q8 := q8.up e79
 replace q15 := q15.up e79
 replace q30 := q30.up e79
 replace q48 := q48.up e79
 refine mv ?_
 obtain ⟨b80, wb80, h⟩ := bind_some' h
 refine GO.joinB 5 77 (b80 = ·) (fun K82 hK82 => ?_) ?_
 ·replace h := wb80
  rcases Bool.eq_false_or_eq_true b75 with c81 | c81
  ·replace h := ite_t c81 h
   refine gv 72 c81 (Y.fieldAddr 198 rfl fld34_3 rfl) ?_
   refine gv 72 c81 (Y.loadV 3  12 _ rfl rfl rfl rfl one32) ?_
   refine gv 72 c81 (Y.lenS rfl q30 slc32) ?_
   refine gv 72 c81 (Y.eqI rfl rfl) ?_
   refine vl (Y.pickT _ c81 rfl rfl) ?_
   refine GO.nil ?_
   refine p2 (p2 (p2 (p2 ?_)))
   exact hK82 _ _ l0 (Option.some.inj h).symm
  replace h := ite_f c81 h
  refine gf 72 c81 ?_
  refine gf 72 c81 ?_
  refine gf 72 c81 ?_
  refine gf 72 c81 ?_
  refine vl (Y.pickF _ c81 rfl rfl) ?_
  refine GO.nil ?_
  refine p2 (p2 (p2 (p2 ?_)))
  exact hK82 _ _ l0 (Option.some.inj h).symm
 rintro _ S83 e84 rfl
 replace q8 := q8.up e84
 replace q15 := q15.up e84
 replace q30 := q30.up e84
 replace q48 := q48.up e84
 refine mv ?_
 obtain ⟨b85, wb85, h⟩ := bind_some' h
 refine GO.joinB 3 81 (b85 = ·) (fun K87 hK87 => ?_) ?_
 ·replace h := wb85
  rcases Bool.eq_false_or_eq_true b80 with c86 | c86
  ·replace h := ite_t c86 h
   refine gv 78 c86 (Y.move rfl) ?_
   refine gv 78 c86 (Y.eqI rfl rfl) ?_
   refine vl (Y.pickT _ c86 rfl rfl) ?_
   refine GO.nil ?_
   refine p2 (p2 ?_)
   exact hK87 _ _ l0 (Option.some.inj h).symm
  replace h := ite_f c86 h
  refine gf 78 c86 ?_
  refine gf 78 c86 ?_
  refine vl (Y.pickF _ c86 rfl rfl) ?_
  refine GO.nil ?_
  refine p2 (p2 ?_)
  exact hK87 _ _ l0 (Option.some.inj h).symm
 rintro _ S88 e89 rfl
 replace q8 := q8.up e89
 replace q15 := q15.up e89
 replace q30 := q30.up e89
 replace q48 := q48.up e89
 refine mv ?_
 obtain ⟨b90, wb90, h⟩ := bind_some' h
 refine GO.joinB 3 85 (b90 = ·) (fun K92 hK92 => ?_) ?_
 ·replace h := wb90
  rcases Bool.eq_false_or_eq_true b85 with c91 | c91
  ·replace h := ite_t c91 h
   refine gv 82 c91 (Y.move rfl) ?_
   refine gv 82 c91 (Y.eqI rfl rfl) ?_
   refine vl (Y.pickT _ c91 rfl rfl) ?_
   refine GO.nil ?_
   refine p2 (p2 ?_)
   exact hK92 _ _ l0 (Option.some.inj h).symm
  replace h := ite_f c91 h
  refine gf 82 c91 ?_
  refine gf 82 c91 ?_
  refine vl (Y.pickF _ c91 rfl rfl) ?_
  refine GO.nil ?_
  refine p2 (p2 ?_)
  exact hK92 _ _ l0 (Option.some.inj h).symm
 rintro _ S93 e94 rfl
 replace q8 := q8.up e94
 replace q15 := q15.up e94
 replace q30 := q30.up e94
 replace q48 := q48.up e94
 refine mv ?_
 obtain ⟨b95, wb95, h⟩ := bind_some' h
 refine GO.joinB 3 89 (b95 = ·) (fun K97 hK97 => ?_) ?_
 ·replace h := wb95
  rcases Bool.eq_false_or_eq_true b90 with c96 | c96
  ·replace h := ite_t c96 h
   refine gv 86 c96 (Y.move rfl) ?_
   refine gv 86 c96 (Y.not rfl) ?_
   refine vl (Y.pickT _ c96 rfl rfl) ?_
   refine GO.nil ?_
   refine p2 (p2 ?_)
   exact hK97 _ _ l0 (Option.some.inj h).symm
  replace h := ite_f c96 h
  refine gf 86 c96 ?_
  refine gf 86 c96 ?_
  refine vl (Y.pickF _ c96 rfl rfl) ?_
  refine GO.nil ?_
  refine p2 (p2 ?_)
  exact hK97 _ _ l0 (Option.some.inj h).symm
 rintro _ S98 e99 rfl
 replace q8 := q8.up e99
 replace q15 := q15.up e99
 replace q30 := q30.up e99
 replace q48 := q48.up e99
 refine an ?_
 refine nt hK59 ?_
 refine G.ret ?_
 obtain rfl := Option.some.inj h
 exact hret _ _ _ _ 6 (l2 e7 (l2 e12 (l2 e19 (l2 e27 (l2 e37 (l2 e45 (l2 e55 (l2 e64 (l2 e69 (l2 e74 (l2 e79 (l2 e84 (l2 e89 (l2 e94 e99)))))))))))))) (.cons (.tmp rfl) .nil) rfl rfl

/- chirograph/chirographlaw18.ProofChecks -/
def l18_ProofChecks_s1 (t175 : (List Nd) × Int) (t195 : (List Str) × (List Item) × Int) : (Int) → Option ((Int) ⊕ (Bool ⊕ (Int)))
 | x248 => (if (decide (x248 < (lenI t195.1))) = true then ((req ((0 : Int) ≤ x248 ∧ x248 < lenI t175.1)).bind fun _ => ((proof_Summed (getI t175.1 x248)).bind fun t263 => ((req ((0 : Int) ≤ x248 ∧ x248 < lenI t195.1)).bind fun _ => (if (!(t263 == (getI t195.1 x248))) = true then some (.inr (.inl false)) else some (.inl (wrap64 (x248 + (1 : Int)))))))) else some (.inr (.inr x248)))

def l18_ProofChecks (k : Nat) (a0 : Lab) (a1 : Lab) (a2 : Proof) (a3 : (List Leaf)) : Option Bool :=
 ((l18_Cut a2).bind fun t11 => ((l16_Few a3 (20 : Int)).bind fun t19 => ((proof_Check a0 a1 t11).bind fun t27 => ((l18_Told t11).bind fun t36 => ((r18_Check a0 a1 t36).bind fun t47 => ((proof_Extract k t19 a1 t11).bind fun t115 => ((l16_Leaves t19).bind fun t121 => ((l18_Told t11).bind fun t130 => ((r18_Extract k t121 a1 t130).bind fun t140 => ((proof_Proof_Nodes t11 a1).bind fun t175 => ((l18_Told t11).bind fun t183 => ((r18_Nodes t183 a1).bind fun t195 => ((if (t175.2 != t195.2.2) = true then some true else some ((lenI t175.1) != (lenI t195.1))).bind fun b237 => (if b237 = true then some false else ((iter (l18_ProofChecks_s1 t175 t195) (0 : Int)).bind fun b250 => (match b250 with | .inl r₀ => some r₀ | .inr x248 => ((proof_Clash t115.1 t115.2.1).bind fun t292 => ((if (!(t292 == t115.2.2)) = true then some true else ((proof_Clash t115.1 t115.1).bind fun t300 => some t300)).bind fun b297 => (if b297 = true then some false else ((l18_awake k).bind fun t310 => ((if t310 = true then some ((t27.1.label == t47.1.label) && ((t27.1.value == t47.1.value) && ((t27.1.at_ == t47.1.at_) && true))) else some false).bind fun b315 => ((if b315 = true then some (t27.2.1 == t47.2.1) else some false).bind fun b320 => ((if b320 = true then some (t27.2.2 == t47.2.2) else some false).bind fun b325 => ((if b325 = true then some (t115.1 == t140.1) else some false).bind fun b330 => ((if b330 = true then some (t115.2.1 == t140.2.1) else some false).bind fun b335 => ((if b335 = true then some (t115.2.2 == t140.2.2) else some false).bind fun b340 => some b340))))))))))))))))))))))))))

theorem l18_ProofChecks_ok {S : Hp} (k : Nat) (a0 : Lab) (a1 : Lab) (a2 : Proof) (a3 : (List Leaf)) {v1 : Value} (q2 : Sls S v1 a2.path) {va3 : Value} (qa3 : Sls S va3 a3) {r : Bool} (h : l18_ProofChecks k a0 a1 a2 a3 = some r) : Fn Tryz.prog 3 [aggV [sL a0], aggV [sL a1], aggV [sV (.int .i64 a2.end_), sL a2.leaf.label, sL a2.leaf.value, sV (.int .i64 a2.leaf.at_), sV (.int .i64 a2.a.len), sL a2.a.bits, sL a2.a.sum, sV (.int .i64 a2.a.at_), sV (.int .i64 a2.b.len), sL a2.b.bits, sL a2.b.sum, sV (.int .i64 a2.b.at_), sV v1], va3] S (fun v S' => v = .bool r) := by
 unfold l18_ProofChecks at h
 refine fo [.tmp 8] 147 Tryz.func3 Tryz.ntmps3 (fun o F Q hQ hN hret => ?_)
 refine sr (fun _ hK3 => ?_)
 refine st (OS.boxA (by decide) rfl (fun ad4 => ?_))
 refine st (OS.boxA (by decide) rfl (fun ad6 => ?_))
 refine st (OS.boxA (by decide) rfl (fun ad8 => ?_))
 refine an ?_
 refine nt hK3 ?_
 refine sr (fun _ hK10 => ?_)
 refine lb 0 0 13 [sV (.int .i64 a2.end_), sL a2.leaf.label, sL a2.leaf.value, sV (.int .i64 a2.leaf.at_), sV (.int .i64 a2.a.len), sL a2.a.bits, sL a2.a.sum, sV (.int .i64 a2.a.at_), sV (.int .i64 a2.b.len), sL a2.b.bits, sL a2.b.sum, sV (.int .i64 a2.b.at_), sV v1] row34 ?_
 obtain ⟨t11, wt11, h⟩ := bind_some' h
 refine st (cl fb6 (l18_Cut_ok a2 q2 wt11) (fun v12 S13 e14 z15 => ?_))
 replace q2 := q2.up e14
 replace qa3 := qa3.up e14
 obtain ⟨v16, rfl, q17⟩ := z15
 refine sf 0 13 [sV (.int .i64 t11.end_), sL t11.leaf.label, sL t11.leaf.value, sV (.int .i64 t11.leaf.at_), sV (.int .i64 t11.a.len), sL t11.a.bits, sL t11.a.sum, sV (.int .i64 t11.a.at_), sV (.int .i64 t11.b.len), sL t11.b.bits, sL t11.b.sum, sV (.int .i64 t11.b.at_), sV v16] (aggV_cells _) (oI (oL (oL (oI (oI (oL (oL (oI (oI (oL (oL (oI (oV (q17.one) oN))))))))))))) size34 ?_
 refine nt hK10 ?_
 refine sr (fun _ hK18 => ?_)
 refine mv ?_
 obtain ⟨t19, wt19, h⟩ := bind_some' h
 refine st (cl fb7 (l16_Few_ok a3 (20 : Int) qa3 wt19) (fun v20 S21 e22 z23 => ?_))
 replace q2 := q2.up e22
 replace qa3 := qa3.up e22
 replace q17 := q17.up e22
 have q25 := z23
 refine an ?_
 refine nt hK18 ?_
 refine sr (fun _ hK26 => ?_)
 refine lb 2 0 1 [sL a0] row23 ?_
 refine lb 1 0 1 [sL a1] row23 ?_
 refine lb 0 0 13 [sV (.int .i64 t11.end_), sL t11.leaf.label, sL t11.leaf.value, sV (.int .i64 t11.leaf.at_), sV (.int .i64 t11.a.len), sL t11.a.bits, sL t11.a.sum, sV (.int .i64 t11.a.at_), sV (.int .i64 t11.b.len), sL t11.b.bits, sL t11.b.sum, sV (.int .i64 t11.b.at_), sV v16] row34 ?_
 obtain ⟨t27, wt27, h⟩ := bind_some' h
 refine st (cl fb8 (proof_Check_ok a0 a1 t11 q17 wt27) (fun v28 S29 e30 z31 => ?_))
 replace q2 := q2.up e30
 replace q25 := q25.up e30
 replace q17 := q17.up e30
 replace qa3 := qa3.up e30
 obtain rfl := z31
 refine mv ?_
 refine vl (Y.extract _ rfl rfl) ?_
 refine vl (Y.extract _ rfl rfl) ?_
 refine vl (Y.extract _ rfl rfl) ?_
 refine st (OS.alloc _ (by decide) zero25 (fun ad32 => ?_))
 refine sf 0 3 [sL t27.1.label, sL t27.1.value, sV (.int .i64 t27.1.at_)] (aggV_cells _) (oL (oL (oI oN))) size25 ?_
 refine an ?_
 refine an ?_
 refine nt hK26 ?_
 refine G.seq (fun _ hK34 => ?_)
 obtain ⟨t36, wt36, h⟩ := bind_some' h
 obtain ⟨t47, wt47, h⟩ := bind_some' h
 refine G.cut (fun E₀ S₀ L₀ => ∃ (ad57 : Nat), S29.le S₀ ∧ E₀ = [(14, .int .i64 t47.2.2), (13, .bool t47.2.1), (12, .pointer (some ⟨ad57, 0, none⟩)), (11, .int .i64 t27.2.2), (10, .bool t27.2.1), (9, .pointer (some ⟨ad32, 0, none⟩)), (3, v20), (6, .pointer (some ⟨ad8, 0, none⟩)), (5, .pointer (some ⟨ad6, 0, none⟩))] ∧ Blk ad57 [sL t47.1.label, sL t47.1.value, sV (.int .i64 t47.1.at_)] :: Blk ad32 [sL t27.1.label, sL t27.1.value, sV (.int .i64 t27.1.at_)] :: Blk ad8 [sV (.int .i64 t11.end_), sL t11.leaf.label, sL t11.leaf.value, sV (.int .i64 t11.leaf.at_), sV (.int .i64 t11.a.len), sL t11.a.bits, sL t11.a.sum, sV (.int .i64 t11.a.at_), sV (.int .i64 t11.b.len), sL t11.b.bits, sL t11.b.sum, sV (.int .i64 t11.b.at_), sV v16] :: Blk ad6 [sL a1] :: Blk ad4 [sL a0] :: F = L₀) (fun K35 hK35 => ?_) ?_
 ·refine G.drawN 13 mixed (by kernel_rfl) ?_
  refine tn 0 rfl hQ (fun S₀ X₀ e₀ => Y.loadB (X₀.length + 3)  0 1 [sL a0] rfl (Lk rfl) rfl rfl row23 (by kernel_rfl)) ?_
  refine tn 1 rfl hQ (fun S₀ X₀ e₀ => Y.loadB (X₀.length + 2)  0 1 [sL a1] rfl (Lk rfl) rfl rfl row23 (by kernel_rfl)) ?_
  refine tn 2 rfl hQ (fun S₀ X₀ e₀ => Y.loadB (X₀.length + 1)  0 13 [sV (.int .i64 t11.end_), sL t11.leaf.label, sL t11.leaf.value, sV (.int .i64 t11.leaf.at_), sV (.int .i64 t11.a.len), sL t11.a.bits, sL t11.a.sum, sV (.int .i64 t11.a.at_), sV (.int .i64 t11.b.len), sL t11.b.bits, sL t11.b.sum, sV (.int .i64 t11.b.at_), sV v16] rfl (Lk rfl) rfl rfl row34 (by kernel_rfl)) ?_
  refine GDr.any [3, 9] (by kernel_rfl) rfl (AllR.two ?_ ?_)
  ·refine n1 rfl (cl fb10 (l18_Told_ok t11 q17 wt36) (fun v59 S60 e61 z62 => ⟨⟨[], .refl, e61⟩, ?_⟩))
   have q63 := q2.up e61
   have q64 := q25.up e61
   have q65 := q17.up e61
   have q66 := qa3.up e61
   obtain ⟨v67, rfl, q68⟩ := z62
   refine GDr.any [4, 9] (by kernel_rfl) rfl (AllR.two ?_ ?_)
   ·refine n1 rfl (cl fb9 (r18_Check_ok a0 a1 t36 q68 wt47) (fun v69 S70 e71 z72 => ⟨⟨[], .refl, (l2 e61 e71)⟩, ?_⟩))
    have q73 := q63.up e71
    have q74 := q64.up e71
    have q75 := q65.up e71
    have q76 := q66.up e71
    have q77 := q68.up e71
    obtain rfl := z72
    refine tn 5 rfl hQ (fun _ _ _ => Y.move rfl) ?_
    refine tn 6 rfl hQ (fun _ _ _ => Y.extract _ rfl rfl) ?_
    refine tn 7 rfl hQ (fun _ _ _ => Y.extract _ rfl rfl) ?_
    refine tn 8 rfl hQ (fun _ _ _ => Y.extract _ rfl rfl) ?_
    refine g1 9 ?_
    refine n1 rfl (OS.alloc _ (by decide) zero41 (fun ad78 => ⟨⟨[_], (.same .refl), (l2 e61 e71)⟩, ?_⟩))
    refine g1 10 ?_
    refine n1 rfl (OS.store 0 0 3 [sL t47.1.label, sL t47.1.value, sV (.int .i64 t47.1.at_)] (r := [sL t47.1.label, sL t47.1.value, sV (.int .i64 t47.1.at_)]) rfl rfl (aggV_cells _) (oL (oL (oI oN))) rfl rfl size41 (by kernel_rfl) (by kernel_rfl) (by kernel_rfl) ⟨⟨[_], (.same .refl), (l2 e61 e71)⟩, ?_⟩)
    refine tn 11 rfl hQ (fun _ _ _ => Y.assign rfl) ?_
    refine tn 12 rfl hQ (fun _ _ _ => Y.assign rfl) ?_
    refine dn ?_
    refine GX.keep [14, 13, 12, 11, 10, 9, 3, 6, 5] rfl ?_
    exact hK35 _ _ _ ⟨ad78, (l2 e61 e71), rfl, rfl⟩
   refine n1 rfl (OS.alloc _ (by decide) zero41 (fun ad80 => ⟨⟨[_], (.same .refl), e61⟩, ?_⟩))
   refine g1 4 ?_
   refine n1 rfl (cl fb9 (r18_Check_ok a0 a1 t36 q68 wt47) (fun v82 S83 e84 z85 => ⟨⟨[_], (.same .refl), (l2 e61 e84)⟩, ?_⟩))
   have q86 := q63.up e84
   have q87 := q64.up e84
   have q88 := q65.up e84
   have q89 := q66.up e84
   have q90 := q68.up e84
   obtain rfl := z85
   refine tn 5 rfl hQ (fun _ _ _ => Y.move rfl) ?_
   refine tn 6 rfl hQ (fun _ _ _ => Y.extract _ rfl rfl) ?_
   refine tn 7 rfl hQ (fun _ _ _ => Y.extract _ rfl rfl) ?_
   refine tn 8 rfl hQ (fun _ _ _ => Y.extract _ rfl rfl) ?_
   refine g1 10 ?_
   refine n1 rfl (OS.store 0 0 3 [sL t47.1.label, sL t47.1.value, sV (.int .i64 t47.1.at_)] (r := [sL t47.1.label, sL t47.1.value, sV (.int .i64 t47.1.at_)]) rfl rfl (aggV_cells _) (oL (oL (oI oN))) rfl rfl size41 (by kernel_rfl) (by kernel_rfl) (by kernel_rfl) ⟨⟨[_], (.same .refl), (l2 e61 e84)⟩, ?_⟩)
   refine tn 11 rfl hQ (fun _ _ _ => Y.assign rfl) ?_
   refine tn 12 rfl hQ (fun _ _ _ => Y.assign rfl) ?_
   refine dn ?_
   refine GX.keep [14, 13, 12, 11, 10, 9, 3, 6, 5] rfl ?_
   exact hK35 _ _ _ ⟨ad80, (l2 e61 e84), rfl, rfl⟩
  refine n1 rfl (OS.alloc _ (by decide) zero41 (fun ad91 => ⟨⟨[_], (.same .refl), l0⟩, ?_⟩))
  refine g1 3 ?_
  refine n1 rfl (cl fb10 (l18_Told_ok t11 q17 wt36) (fun v93 S94 e95 z96 => ⟨⟨[_], (.same .refl), e95⟩, ?_⟩))
  have q97 := q2.up e95
  have q98 := q25.up e95
  have q99 := q17.up e95
  have q100 := qa3.up e95
  obtain ⟨v101, rfl, q102⟩ := z96
  refine g1 4 ?_
  refine n1 rfl (cl fb9 (r18_Check_ok a0 a1 t36 q102 wt47) (fun v103 S104 e105 z106 => ⟨⟨[_], (.same .refl), (l2 e95 e105)⟩, ?_⟩))
  have q107 := q97.up e105
  have q108 := q98.up e105
  have q109 := q99.up e105
  have q110 := q100.up e105
  have q111 := q102.up e105
  obtain rfl := z106
  refine tn 5 rfl hQ (fun _ _ _ => Y.move rfl) ?_
  refine tn 6 rfl hQ (fun _ _ _ => Y.extract _ rfl rfl) ?_
  refine tn 7 rfl hQ (fun _ _ _ => Y.extract _ rfl rfl) ?_
  refine tn 8 rfl hQ (fun _ _ _ => Y.extract _ rfl rfl) ?_
  refine g1 10 ?_
  refine n1 rfl (OS.store 0 0 3 [sL t47.1.label, sL t47.1.value, sV (.int .i64 t47.1.at_)] (r := [sL t47.1.label, sL t47.1.value, sV (.int .i64 t47.1.at_)]) rfl rfl (aggV_cells _) (oL (oL (oI oN))) rfl rfl size41 (by kernel_rfl) (by kernel_rfl) (by kernel_rfl) ⟨⟨[_], (.same .refl), (l2 e95 e105)⟩, ?_⟩)
  refine tn 11 rfl hQ (fun _ _ _ => Y.assign rfl) ?_
  refine tn 12 rfl hQ (fun _ _ _ => Y.assign rfl) ?_
  refine dn ?_
  refine GX.keep [14, 13, 12, 11, 10, 9, 3, 6, 5] rfl ?_
  exact hK35 _ _ _ ⟨ad91, (l2 e95 e105), rfl, rfl⟩
 rintro _ S112 _ ⟨ad57, e113, rfl, rfl⟩
 replace q25 := q25.up e113
 replace q17 := q17.up e113
 refine GX.then hK34 ?_
 refine sr (fun _ hK114 => ?_)
 refine mv ?_
 refine lb 3 0 1 [sL a1] row23 ?_
 refine lb 2 0 13 [sV (.int .i64 t11.end_), sL t11.leaf.label, sL t11.leaf.value, sV (.int .i64 t11.leaf.at_), sV (.int .i64 t11.a.len), sL t11.a.bits, sL t11.a.sum, sV (.int .i64 t11.a.at_), sV (.int .i64 t11.b.len), sL t11.b.bits, sL t11.b.sum, sV (.int .i64 t11.b.at_), sV v16] row34 ?_
 obtain ⟨t115, wt115, h⟩ := bind_some' h
 refine st (cl fb11 (proof_Extract_ok k t19 a1 t11 q25 q17 wt115) (fun v116 S117 e118 z119 => ?_))
 replace q25 := q25.up e118
 replace q17 := q17.up e118
 obtain rfl := z119
 refine mv ?_
 refine vl (Y.extract _ rfl rfl) ?_
 refine vl (Y.extract _ rfl rfl) ?_
 refine vl (Y.extract _ rfl rfl) ?_
 refine an ?_
 refine an ?_
 refine an ?_
 refine nt hK114 ?_
 refine G.seq (fun _ hK120 => ?_)
 obtain ⟨t121, wt121, h⟩ := bind_some' h
 obtain ⟨t130, wt130, h⟩ := bind_some' h
 obtain ⟨t140, wt140, h⟩ := bind_some' h
 refine G.drawN 13 mixed (by kernel_rfl) ?_
 refine tn 0 rfl hQ (fun _ _ _ => Y.move rfl) ?_
 refine tn 2 rfl hQ (fun S₀ X₀ e₀ => Y.loadB (X₀.length + 3)  0 1 [sL a1] rfl (Lk rfl) rfl rfl row23 (by kernel_rfl)) ?_
 refine tn 3 rfl hQ (fun S₀ X₀ e₀ => Y.loadB (X₀.length + 2)  0 13 [sV (.int .i64 t11.end_), sL t11.leaf.label, sL t11.leaf.value, sV (.int .i64 t11.leaf.at_), sV (.int .i64 t11.a.len), sL t11.a.bits, sL t11.a.sum, sV (.int .i64 t11.a.at_), sV (.int .i64 t11.b.len), sL t11.b.bits, sL t11.b.sum, sV (.int .i64 t11.b.at_), sV v16] rfl (Lk rfl) rfl rfl row34 (by kernel_rfl)) ?_
 refine g1 1 ?_
 refine n1 rfl (cl fb13 (l16_Leaves_ok t19 q25 wt121) (fun v149 S150 e151 z152 => ⟨⟨[], .refl, e151⟩, ?_⟩))
 have q153 := q25.up e151
 have q154 := q17.up e151
 have q156 := z152
 refine g1 4 ?_
 refine n1 rfl (cl fb10 (l18_Told_ok t11 q154 wt130) (fun v157 S158 e159 z160 => ⟨⟨[], .refl, (l2 e151 e159)⟩, ?_⟩))
 have q161 := q153.up e159
 have q162 := q154.up e159
 have q163 := q156.up e159
 obtain ⟨v164, rfl, q165⟩ := z160
 refine g1 5 ?_
 refine n1 rfl (cl fb12 (r18_Extract_ok k t121 a1 t130 q163 q165 wt140) (fun v166 S167 e168 z169 => ⟨⟨[], .refl, (l2 e151 (l2 e159 e168))⟩, ?_⟩))
 have q170 := q161.up e168
 have q171 := q162.up e168
 have q172 := q163.up e168
 have q173 := q165.up e168
 obtain rfl := z169
 refine tn 6 rfl hQ (fun _ _ _ => Y.move rfl) ?_
 refine tn 7 rfl hQ (fun _ _ _ => Y.extract _ rfl rfl) ?_
 refine tn 8 rfl hQ (fun _ _ _ => Y.extract _ rfl rfl) ?_
 refine tn 9 rfl hQ (fun _ _ _ => Y.extract _ rfl rfl) ?_
 refine tn 10 rfl hQ (fun _ _ _ => Y.assign rfl) ?_
 refine tn 11 rfl hQ (fun _ _ _ => Y.assign rfl) ?_
 refine tn 12 rfl hQ (fun _ _ _ => Y.assign rfl) ?_
 refine dn ?_
 refine GX.then hK120 ?_
 refine sr (fun _ hK174 => ?_)
 refine lb 2 0 13 [sV (.int .i64 t11.end_), sL t11.leaf.label, sL t11.leaf.value, sV (.int .i64 t11.leaf.at_), sV (.int .i64 t11.a.len), sL t11.a.bits, sL t11.a.sum, sV (.int .i64 t11.a.at_), sV (.int .i64 t11.b.len), sL t11.b.bits, sL t11.b.sum, sV (.int .i64 t11.b.at_), sV v16] row34 ?_
 refine lb 3 0 1 [sL a1] row23 ?_
 obtain ⟨t175, wt175, h⟩ := bind_some' h
 refine st (cl fb14 (proof_Proof_Nodes_ok t11 a1 q171 wt175) (fun v176 S177 e178 z179 => ?_))
 replace q170 := q170.up e178
 replace q171 := q171.up e178
 replace q172 := q172.up e178
 replace q173 := q173.up e178
 obtain ⟨v180, rfl, q181⟩ := z179
 refine mv ?_
 refine vl (Y.extract _ rfl rfl) ?_
 refine vl (Y.extract _ rfl rfl) ?_
 refine an ?_
 refine an ?_
 refine nt hK174 ?_
 refine G.seq (fun _ hK182 => ?_)
 obtain ⟨t183, wt183, h⟩ := bind_some' h
 obtain ⟨t195, wt195, h⟩ := bind_some' h
 refine G.drawN 11 mixed (by kernel_rfl) ?_
 refine tn 0 rfl hQ (fun S₀ X₀ e₀ => Y.loadB (X₀.length + 2)  0 13 [sV (.int .i64 t11.end_), sL t11.leaf.label, sL t11.leaf.value, sV (.int .i64 t11.leaf.at_), sV (.int .i64 t11.a.len), sL t11.a.bits, sL t11.a.sum, sV (.int .i64 t11.a.at_), sV (.int .i64 t11.b.len), sL t11.b.bits, sL t11.b.sum, sV (.int .i64 t11.b.at_), sV v16] rfl (Lk rfl) rfl rfl row34 (by kernel_rfl)) ?_
 refine tn 2 rfl hQ (fun S₀ X₀ e₀ => Y.loadB (X₀.length + 3)  0 1 [sL a1] rfl (Lk rfl) rfl rfl row23 (by kernel_rfl)) ?_
 refine g1 1 ?_
 refine n1 rfl (cl fb10 (l18_Told_ok t11 q171 wt183) (fun v210 S211 e212 z213 => ⟨⟨[], .refl, e212⟩, ?_⟩))
 have q214 := q170.up e212
 have q215 := q171.up e212
 have q216 := q172.up e212
 have q217 := q173.up e212
 have q218 := q181.up e212
 obtain ⟨v219, rfl, q220⟩ := z213
 refine g1 3 ?_
 refine n1 rfl (cl fb15 (r18_Nodes_ok t183 a1 q220 wt195) (fun v221 S222 e223 z224 => ⟨⟨[], .refl, (l2 e212 e223)⟩, ?_⟩))
 have q225 := q214.up e223
 have q226 := q215.up e223
 have q227 := q216.up e223
 have q228 := q217.up e223
 have q229 := q218.up e223
 have q230 := q220.up e223
 obtain ⟨v231, v233, rfl, q232, q234⟩ := z224
 refine tn 4 rfl hQ (fun _ _ _ => Y.move rfl) ?_
 refine tn 5 rfl hQ (fun _ _ _ => Y.extract _ rfl rfl) ?_
 refine tn 6 rfl hQ (fun _ _ _ => Y.extract _ rfl rfl) ?_
 refine tn 7 rfl hQ (fun _ _ _ => Y.extract _ rfl rfl) ?_
 refine tn 8 rfl hQ (fun _ _ _ => Y.assign rfl) ?_
 refine tn 9 rfl hQ (fun _ _ _ => Y.assign rfl) ?_
 refine tn 10 rfl hQ (fun _ _ _ => Y.assign rfl) ?_
 refine dn ?_
 refine GX.then hK182 ?_
 refine G.seq (fun _ hK235 => ?_)
 refine sr (fun _ hK236 => ?_)
 refine mv ?_
 refine mv ?_
 refine vl (Y.neI rfl rfl) ?_
 refine mv ?_
 obtain ⟨b237, wb237, h⟩ := bind_some' h
 refine GO.joinB 6 89 (b237 = ·) (fun K239 hK239 => ?_) ?_
 ·replace h := wb237
  rcases Bool.eq_false_or_eq_true (t175.2 != t195.2.2) with c238 | c238
  ·replace h := ite_t c238 h
   refine gf 83 c238 ?_
   refine gf 83 c238 ?_
   refine gf 83 c238 ?_
   refine gf 83 c238 ?_
   refine gf 83 c238 ?_
   refine vl (Y.pickT _ c238 rfl rfl) ?_
   refine GO.nil ?_
   refine p2 (p2 (p2 (p2 (p2 ?_))))
   exact hK239 _ _ l0 (Option.some.inj h).symm
  replace h := ite_f c238 h
  refine gv 83 c238 (Y.move rfl) ?_
  refine gv 83 c238 (Y.lenS rfl q229 slc55) ?_
  refine gv 83 c238 (Y.move rfl) ?_
  refine gv 83 c238 (Y.lenS rfl q232 slc58) ?_
  refine gv 83 c238 (Y.neI rfl rfl) ?_
  refine vl (Y.pickF _ c238 rfl rfl) ?_
  refine GO.nil ?_
  refine p2 (p2 (p2 (p2 (p2 ?_))))
  exact hK239 _ _ l0 (Option.some.inj h).symm
 rintro _ S240 e241 rfl
 replace q225 := q225.up e241
 replace q226 := q226.up e241
 replace q227 := q227.up e241
 replace q228 := q228.up e241
 replace q229 := q229.up e241
 replace q230 := q230.up e241
 replace q232 := q232.up e241
 replace q234 := q234.up e241
 refine nt hK236 ?_
 refine G.cond _ rfl (fun c242 => ?_) (fun c242 => ?_)
 ·replace h := ite_t c242 h
  refine sr (fun _ hK243 => ?_)
  refine an ?_
  refine nt hK243 ?_
  refine G.ret ?_
  obtain rfl := Option.some.inj h
  exact hret _ _ _ _ 5 (l2 e14 (l2 e22 (l2 e30 (l2 e113 (l2 e118 (l2 e151 (l2 e159 (l2 e168 (l2 e178 (l2 e212 (l2 e223 e241))))))))))) (.cons (.tmp rfl) .nil) rfl rfl
 replace h := ite_f c242 h
 refine sk hK235 ?_
 refine G.seq (fun _ hK244 => ?_)
 refine sr (fun _ hK245 => ?_)
 refine mv ?_
 refine vl (Y.lenS rfl q232 slc58) ?_
 refine mv ?_
 refine nt hK245 ?_
 refine G.block ?_
 obtain ⟨b250, wb250, ho251⟩ := bind_some' h
 refine G.keep [92, 91, 23, 21, 20, 19, 18, 17, 16, 15, 14, 13, 12, 11, 10, 9] rfl ?_
 refine G.loopK (l18_ProofChecks_s1 t175 t195) (fun s₀ E' S' L' => match s₀ with | x248 => S240.le S' ∧ E' = [(92, .int .i64 x248), (91, .int .i64 (lenI t195.1)), (23, v231), (21, v180), (20, .bool t140.2.2), (19, strV t140.2.1), (18, strV t140.1), (17, .bool t115.2.2), (16, strV t115.2.1), (15, strV t115.1), (14, .int .i64 t47.2.2), (13, .bool t47.2.1), (12, .pointer (some ⟨ad57, 0, none⟩)), (11, .int .i64 t27.2.2), (10, .bool t27.2.1), (9, .pointer (some ⟨ad32, 0, none⟩))] ∧ Blk ad57 [sL t47.1.label, sL t47.1.value, sV (.int .i64 t47.1.at_)] :: Blk ad32 [sL t27.1.label, sL t27.1.value, sV (.int .i64 t27.1.at_)] :: Blk ad8 [sV (.int .i64 t11.end_), sL t11.leaf.label, sL t11.leaf.value, sV (.int .i64 t11.leaf.at_), sV (.int .i64 t11.a.len), sL t11.a.bits, sL t11.a.sum, sV (.int .i64 t11.a.at_), sV (.int .i64 t11.b.len), sL t11.b.bits, sL t11.b.sum, sV (.int .i64 t11.b.at_), sV v16] :: Blk ad6 [sL a1] :: Blk ad4 [sL a0] :: F = L') b250 0 (fun E₀ S₀ L₀ => ∃ (x248 : Int), S240.le S₀ ∧ b250 = .inr x248 ∧ E₀ = [(20, .bool t140.2.2), (19, strV t140.2.1), (18, strV t140.1), (17, .bool t115.2.2), (16, strV t115.2.1), (15, strV t115.1), (14, .int .i64 t47.2.2), (13, .bool t47.2.1), (12, .pointer (some ⟨ad57, 0, none⟩)), (11, .int .i64 t27.2.2), (10, .bool t27.2.1), (9, .pointer (some ⟨ad32, 0, none⟩))] ∧ Blk ad57 [sL t47.1.label, sL t47.1.value, sV (.int .i64 t47.1.at_)] :: Blk ad32 [sL t27.1.label, sL t27.1.value, sV (.int .i64 t27.1.at_)] :: Blk ad8 [sV (.int .i64 t11.end_), sL t11.leaf.label, sL t11.leaf.value, sV (.int .i64 t11.leaf.at_), sV (.int .i64 t11.a.len), sL t11.a.bits, sL t11.a.sum, sV (.int .i64 t11.a.at_), sV (.int .i64 t11.b.len), sL t11.b.bits, sL t11.b.sum, sV (.int .i64 t11.b.at_), sV v16] :: Blk ad6 [sL a1] :: Blk ad4 [sL a0] :: F = L₀) wb250 ?_ ?_ ?_
 ·rintro _ S288 _ ⟨x248, e289, rfl, rfl, rfl⟩
  have h := ho251; clear ho251
  try dsimp only at h
  replace q226 := q226.up e289
  refine GX.exit_block ?_
  refine GX.then hK244 ?_
  refine G.seq (fun _ hK290 => ?_)
  refine sr (fun _ hK291 => ?_)
  refine mv ?_
  refine mv ?_
  obtain ⟨t292, wt292, h⟩ := bind_some' h
  refine st (cl fb17 (proof_Clash_ok t115.1 t115.2.1 wt292) (fun v293 S294 e295 z296 => ?_))
  replace q226 := q226.up e295
  obtain rfl := z296
  refine mv ?_
  refine vl (Y.neB rfl rfl Tryz.underlying4) ?_
  refine mv ?_
  obtain ⟨b297, wb297, h⟩ := bind_some' h
  refine GO.joinB 4 115 (b297 = ·) (fun K299 hK299 => ?_) ?_
  ·replace h := wb297
   rcases Bool.eq_false_or_eq_true (!(t292 == t115.2.2)) with c298 | c298
   ·replace h := ite_t c298 h
    refine gf 111 c298 ?_
    refine gf 111 c298 ?_
    refine gf 111 c298 ?_
    refine vl (Y.pickT _ c298 rfl rfl) ?_
    refine GO.nil ?_
    refine p2 (p2 (p2 ?_))
    exact hK299 _ _ l0 (Option.some.inj h).symm
   replace h := ite_f c298 h
   refine gv 111 c298 (Y.move rfl) ?_
   refine gv 111 c298 (Y.move rfl) ?_
   obtain ⟨t300, wt300, h⟩ := bind_some' h
   refine GO.onS 111 rfl (by decide) rfl c298 (cl fb17 (proof_Clash_ok t115.1 t115.1 wt300) (fun v301 S302 e303 z304 => ?_))
   replace q226 := q226.up e303
   obtain rfl := z304
   refine vl (Y.pickF _ c298 rfl rfl) ?_
   refine GO.nil ?_
   refine p2 (p2 (p2 ?_))
   exact hK299 _ _ e303 (Option.some.inj h).symm
  rintro _ S305 e306 rfl
  replace q226 := q226.up e306
  refine nt hK291 ?_
  refine G.cond _ rfl (fun c307 => ?_) (fun c307 => ?_)
  ·replace h := ite_t c307 h
   refine sr (fun _ hK308 => ?_)
   refine an ?_
   refine nt hK308 ?_
   refine G.ret ?_
   obtain rfl := Option.some.inj h
   exact hret _ _ _ _ 5 (l2 e14 (l2 e22 (l2 e30 (l2 e113 (l2 e118 (l2 e151 (l2 e159 (l2 e168 (l2 e178 (l2 e212 (l2 e223 (l2 e241 (l2 e289 (l2 e295 e306)))))))))))))) (.cons (.tmp rfl) .nil) rfl rfl
  replace h := ite_f c307 h
  refine sk hK290 ?_
  refine sr (fun _ hK309 => ?_)
  obtain ⟨t310, wt310, h⟩ := bind_some' h
  refine st (cl fb18 (l18_awake_ok k  wt310) (fun v311 S312 e313 z314 => ?_))
  replace q226 := q226.up e313
  obtain rfl := z314
  refine mv ?_
  obtain ⟨b315, wb315, h⟩ := bind_some' h
  refine GO.joinB 4 121 (b315 = ·) (fun K317 hK317 => ?_) ?_
  ·replace h := wb315
   rcases Bool.eq_false_or_eq_true t310 with c316 | c316
   ·replace h := ite_t c316 h
    refine gv 117 c316 (Y.loadB 1  0 3 [sL t27.1.label, sL t27.1.value, sV (.int .i64 t27.1.at_)] rfl rfl rfl rfl row25 (by kernel_rfl)) ?_
    refine gv 117 c316 (Y.loadB 0  0 3 [sL t47.1.label, sL t47.1.value, sV (.int .i64 t47.1.at_)] rfl rfl rfl rfl row41 (by kernel_rfl)) ?_
    refine gv 117 c316 (Y.eqA rfl rfl eqt41 (by decide) (EqV.struct Tryz.underlying41 nh41 (.row (cells [sL t27.1.label]) (cells [sL t47.1.label]) (by decide) row23 (cells_cut 0 1 rfl rfl (by kernel_rfl)) (cells_cut 0 1 rfl rfl (by kernel_rfl)) (EqV.lab _ _ Tryz.underlying23 one5 Tryz.underlying5) (.row (cells [sL t27.1.value]) (cells [sL t47.1.value]) (by decide) row23 (cells_cut 1 1 rfl rfl (by kernel_rfl)) (cells_cut 1 1 rfl rfl (by kernel_rfl)) (EqV.lab _ _ Tryz.underlying23 one5 Tryz.underlying5) (.one (.int .i64 t27.1.at_) (.int .i64 t47.1.at_) (by decide) one3 (cells_get 2 rfl rfl) (cells_get 2 rfl rfl) (EqV.mono (EqV.int _ _ _ _ Tryz.underlying3) (by decide)) .nil))))) ?_
    refine vl (Y.pickT _ c316 rfl rfl) ?_
    refine GO.nil ?_
    refine p2 (p2 (p2 ?_))
    exact hK317 _ _ l0 (Option.some.inj h).symm
   replace h := ite_f c316 h
   refine gf 117 c316 ?_
   refine gf 117 c316 ?_
   refine gf 117 c316 ?_
   refine vl (Y.pickF _ c316 rfl rfl) ?_
   refine GO.nil ?_
   refine p2 (p2 (p2 ?_))
   exact hK317 _ _ l0 (Option.some.inj h).symm
  rintro _ S318 e319 rfl
  replace q226 := q226.up e319
  refine mv ?_
  obtain ⟨b320, wb320, h⟩ := bind_some' h
  refine GO.joinB 4 126 (b320 = ·) (fun K322 hK322 => ?_) ?_
  ·replace h := wb320
   rcases Bool.eq_false_or_eq_true b315 with c321 | c321
   ·replace h := ite_t c321 h
    refine gv 122 c321 (Y.move rfl) ?_
    refine gv 122 c321 (Y.move rfl) ?_
    refine gv 122 c321 (Y.eqB rfl rfl Tryz.underlying4) ?_
    refine vl (Y.pickT _ c321 rfl rfl) ?_
    refine GO.nil ?_
    refine p2 (p2 (p2 ?_))
    exact hK322 _ _ l0 (Option.some.inj h).symm
   replace h := ite_f c321 h
   refine gf 122 c321 ?_
   refine gf 122 c321 ?_
   refine gf 122 c321 ?_
   refine vl (Y.pickF _ c321 rfl rfl) ?_
   refine GO.nil ?_
   refine p2 (p2 (p2 ?_))
   exact hK322 _ _ l0 (Option.some.inj h).symm
  rintro _ S323 e324 rfl
  replace q226 := q226.up e324
  refine mv ?_
  obtain ⟨b325, wb325, h⟩ := bind_some' h
  refine GO.joinB 4 131 (b325 = ·) (fun K327 hK327 => ?_) ?_
  ·replace h := wb325
   rcases Bool.eq_false_or_eq_true b320 with c326 | c326
   ·replace h := ite_t c326 h
    refine gv 127 c326 (Y.move rfl) ?_
    refine gv 127 c326 (Y.move rfl) ?_
    refine gv 127 c326 (Y.eqI rfl rfl) ?_
    refine vl (Y.pickT _ c326 rfl rfl) ?_
    refine GO.nil ?_
    refine p2 (p2 (p2 ?_))
    exact hK327 _ _ l0 (Option.some.inj h).symm
   replace h := ite_f c326 h
   refine gf 127 c326 ?_
   refine gf 127 c326 ?_
   refine gf 127 c326 ?_
   refine vl (Y.pickF _ c326 rfl rfl) ?_
   refine GO.nil ?_
   refine p2 (p2 (p2 ?_))
   exact hK327 _ _ l0 (Option.some.inj h).symm
  rintro _ S328 e329 rfl
  replace q226 := q226.up e329
  refine mv ?_
  obtain ⟨b330, wb330, h⟩ := bind_some' h
  refine GO.joinB 4 136 (b330 = ·) (fun K332 hK332 => ?_) ?_
  ·replace h := wb330
   rcases Bool.eq_false_or_eq_true b325 with c331 | c331
   ·replace h := ite_t c331 h
    refine gv 132 c331 (Y.move rfl) ?_
    refine gv 132 c331 (Y.move rfl) ?_
    refine gv 132 c331 (Y.eqStr (a := t115.1) (b := t140.1) rfl rfl) ?_
    refine vl (Y.pickT _ c331 rfl rfl) ?_
    refine GO.nil ?_
    refine p2 (p2 (p2 ?_))
    exact hK332 _ _ l0 (Option.some.inj h).symm
   replace h := ite_f c331 h
   refine gf 132 c331 ?_
   refine gf 132 c331 ?_
   refine gf 132 c331 ?_
   refine vl (Y.pickF _ c331 rfl rfl) ?_
   refine GO.nil ?_
   refine p2 (p2 (p2 ?_))
   exact hK332 _ _ l0 (Option.some.inj h).symm
  rintro _ S333 e334 rfl
  replace q226 := q226.up e334
  refine mv ?_
  obtain ⟨b335, wb335, h⟩ := bind_some' h
  refine GO.joinB 4 141 (b335 = ·) (fun K337 hK337 => ?_) ?_
  ·replace h := wb335
   rcases Bool.eq_false_or_eq_true b330 with c336 | c336
   ·replace h := ite_t c336 h
    refine gv 137 c336 (Y.move rfl) ?_
    refine gv 137 c336 (Y.move rfl) ?_
    refine gv 137 c336 (Y.eqStr (a := t115.2.1) (b := t140.2.1) rfl rfl) ?_
    refine vl (Y.pickT _ c336 rfl rfl) ?_
    refine GO.nil ?_
    refine p2 (p2 (p2 ?_))
    exact hK337 _ _ l0 (Option.some.inj h).symm
   replace h := ite_f c336 h
   refine gf 137 c336 ?_
   refine gf 137 c336 ?_
   refine gf 137 c336 ?_
   refine vl (Y.pickF _ c336 rfl rfl) ?_
   refine GO.nil ?_
   refine p2 (p2 (p2 ?_))
   exact hK337 _ _ l0 (Option.some.inj h).symm
  rintro _ S338 e339 rfl
  replace q226 := q226.up e339
  refine mv ?_
  obtain ⟨b340, wb340, h⟩ := bind_some' h
  refine GO.joinB 4 146 (b340 = ·) (fun K342 hK342 => ?_) ?_
  ·replace h := wb340
   rcases Bool.eq_false_or_eq_true b335 with c341 | c341
   ·replace h := ite_t c341 h
    refine gv 142 c341 (Y.move rfl) ?_
    refine gv 142 c341 (Y.move rfl) ?_
    refine gv 142 c341 (Y.eqB rfl rfl Tryz.underlying4) ?_
    refine vl (Y.pickT _ c341 rfl rfl) ?_
    refine GO.nil ?_
    refine p2 (p2 (p2 ?_))
    exact hK342 _ _ l0 (Option.some.inj h).symm
   replace h := ite_f c341 h
   refine gf 142 c341 ?_
   refine gf 142 c341 ?_
   refine gf 142 c341 ?_
   refine vl (Y.pickF _ c341 rfl rfl) ?_
   refine GO.nil ?_
   refine p2 (p2 (p2 ?_))
   exact hK342 _ _ l0 (Option.some.inj h).symm
  rintro _ S343 e344 rfl
  replace q226 := q226.up e344
  refine an ?_
  refine nt hK309 ?_
  refine G.ret ?_
  obtain rfl := Option.some.inj h
  exact hret _ _ _ _ 5 (l2 e14 (l2 e22 (l2 e30 (l2 e113 (l2 e118 (l2 e151 (l2 e159 (l2 e168 (l2 e178 (l2 e212 (l2 e223 (l2 e241 (l2 e289 (l2 e295 (l2 e306 (l2 e313 (l2 e319 (l2 e324 (l2 e329 (l2 e334 (l2 e339 e344))))))))))))))))))))) (.cons (.tmp rfl) .nil) rfl rfl
 ·exact ⟨Hp.le_refl _, rfl, rfl⟩
 rintro x248 _ S246 _ ⟨e247, rfl, rfl⟩ out1 h hf1 K1 hK1 hx249
 rw [l18_ProofChecks_s1] at h
 replace q232 := q232.up e247
 replace q229 := q229.up e247
 replace q226 := q226.up e247
 refine sr (fun _ hK252 => ?_)
 refine vl (Y.ltI rfl rfl) ?_
 refine nt hK252 ?_
 refine G.seq (fun _ hK253 => ?_)
 refine G.cond _ rfl (fun c254 => ?_) (fun c254 => ?_)
 ·replace h := ite_t c254 h
  refine sk hK253 ?_
  refine G.seq (fun _ hK255 => ?_)
  refine G.block ?_
  refine sr (fun _ hK256 => ?_)
  refine mv ?_
  refine an ?_
  refine nt hK256 ?_
  refine G.seq (fun _ hK257 => ?_)
  obtain ⟨g258, h⟩ := req_bind h
  obtain ⟨ad259, p260, z261, q262⟩ := Sls.at q229 g258
  obtain ⟨t263, wt263, h⟩ := bind_some' h
  obtain ⟨g272, h⟩ := req_bind h
  obtain ⟨ad273, p274, z275, q276⟩ := Sls.at q232 g272
  refine G.drawN 10 mixed (by kernel_rfl) ?_
  refine tn 0 rfl hQ (fun _ _ _ => Y.move rfl) ?_
  refine tn 1 rfl hQ (fun _ _ _ => Y.move rfl) ?_
  refine tn 2 rfl hQ (fun _ _ _ => Y.idxS rfl z261 rfl slc55 g258) ?_
  refine tn 3 rfl hQ (fun S₀ X₀ e₀ => Y.loadSV _ rfl (At.val (At.part (q262.up e₀) 0 1 [sV (ndV (getI t175.1 x248))] rfl rfl)) one63) ?_
  refine tn 5 rfl hQ (fun _ _ _ => Y.move rfl) ?_
  refine tn 6 rfl hQ (fun _ _ _ => Y.move rfl) ?_
  refine tn 7 rfl hQ (fun _ _ _ => Y.idxS rfl z275 rfl slc58 g272) ?_
  refine tn 8 rfl hQ (fun S₀ X₀ e₀ => Y.loadSV _ rfl (At.val (At.part (q276.up e₀) 0 1 [sV (strV (getI t195.1 x248))] rfl rfl)) one9) ?_
  refine g1 4 ?_
  refine n1 rfl (cl fb16 (proof_Summed_ok (getI t175.1 x248) wt263) (fun v277 S278 e279 z280 => ⟨⟨[], .refl, e279⟩, ?_⟩))
  have q281 := q232.up e279
  have q282 := q229.up e279
  have q283 := q262.up e279
  have q284 := q276.up e279
  have q285 := q226.up e279
  obtain rfl := z280
  refine tn 9 rfl hQ (fun _ _ _ => Y.neStr (a := t263) (b := (getI t195.1 x248)) rfl rfl) ?_
  refine dn ?_
  refine GX.then hK257 ?_
  refine G.cond _ rfl (fun c286 => ?_) (fun c286 => ?_)
  ·replace h := ite_t c286 h
   refine sr (fun _ hK287 => ?_)
   refine an ?_
   refine nt hK287 ?_
   refine G.ret ?_
   obtain rfl := Option.some.inj h
   obtain rfl := hf1 _ rfl
   have h := ho251
   try dsimp only at h
   obtain rfl := Option.some.inj h
   exact hret _ _ _ _ 5 (l2 e14 (l2 e22 (l2 e30 (l2 e113 (l2 e118 (l2 e151 (l2 e159 (l2 e168 (l2 e178 (l2 e212 (l2 e223 (l2 e241 (l2 e247 e279))))))))))))) (.cons (.tmp rfl) .nil) rfl rfl
  replace h := ite_f c286 h
  refine G.skip ?_
  refine GX.normal_block ?_
  refine GX.then hK255 ?_
  refine G.region ?_
  refine vl (Y.addI rfl rfl) ?_
  refine mv ?_
  refine GO.nil ?_
  obtain rfl := Option.some.inj h
  refine GX.keep [92, 91, 23, 21, 20, 19, 18, 17, 16, 15, 14, 13, 12, 11, 10, 9] rfl ?_
  exact hK1 _ _ _ _ rfl ⟨(l2 e247 e279), rfl, rfl⟩
 replace h := ite_f c254 h
 refine G.exit ?_
 refine GX.exit_then ?_
 obtain rfl := Option.some.inj h
 refine GX.keep [20, 19, 18, 17, 16, 15, 14, 13, 12, 11, 10, 9] rfl ?_
 exact hx249 _ _ _ ⟨_, e247, (hf1 _ rfl).symm, rfl, rfl⟩

end
end Go.Ch
end
section
/- What the functions on bits come to. -/
set_option linter.unusedVariables false
set_option linter.unusedSimpArgs false
namespace Go.Ch
open Go.RowKit (wrap64)
noncomputable section

theorem tdiv8 {i : Nat} (h : i ≤ 256) : wrap64 (Int.tdiv (i : Int) 8) = ((i / 8 : Nat) : Int) := by
  rw [wrap_id (by rw [Int.tdiv_eq_ediv_of_nonneg (by omega)]; omega), Int.tdiv_eq_ediv_of_nonneg (by omega)]; omega
theorem tmod8 (i : Nat) : Int.tmod (i : Int) 8 = ((i % 8 : Nat) : Int) := by
  rw [Int.tmod_eq_emod_of_nonneg (by omega)]; omega
theorem getV_lab (l : Lab) (k : Nat) : getV l (k : Int) = l.toList.getD k 0 := by
  simp [getV, getI]; rfl
theorem and1 (n : Nat) : bitsI .and .i64 (n : Int) 1 = ((n % 2 : Nat) : Int) := by
  show IntKind.i64.wrap ((BitVec.ofInt 64 (n : Int) &&& BitVec.ofInt 64 ((1 : Nat) : Int)).toNat : Int) = _
  rw [bv_of_nat, bv_of_nat, BitVec.toNat_and, BitVec.toNat_ofNat, BitVec.toNat_ofNat]
  have e : (n % 2 ^ 64 &&& 1 % 2 ^ 64) = n % 2 := by
    rw [show (1 : Nat) % 2 ^ 64 = 1 from rfl, Nat.and_one_is_mod]; omega
  rw [e, wrap_i64, wrap_id (by omega)]

/-- Bit i, as Go has it. -/
def bitI (l : Lab) (i : Int) : Int := if 0 ≤ i then b01 (bt l i.toNat) else 0
theorem bitI_nat (l : Lab) (i : Nat) : bitI l (i : Int) = b01 (bt l i) := by unfold bitI; simp
theorem bits_Bit_eq (l : Lab) (i : Int) : bits_Bit l i = some (bitI l i) := by
  unfold bits_Bit bitI
  by_cases h : 0 ≤ i ∧ i < 256
  · obtain ⟨n, rfl⟩ := Int.eq_ofNat_of_zero_le h.1
    have hn : n < 256 := by omega
    have h1 : ¬ (n : Int) < 0 := by omega
    have h2 : ¬ 256 ≤ (n : Int) := by omega
    simp only [h1, h2, decide_false, Bool.false_eq_true, if_false, some_bind, if_pos h.1, Int.toNat_natCast]
    rw [tdiv8 (by omega), tmod8, req_t (by omega), req_t (by rw [wrap_id (by omega)]; omega)]
    rw [wrap_id (by omega), getV_lab, and1]
    congr 1
    unfold bt bt8 b01 hr_u8
    have e : (min ((7 : Int) - ((n % 8 : Nat) : Int)).toNat 8) = 7 - n % 8 := by omega
    rw [e]
    have h8 : (UInt8.ofNat ((l.toList.getD (n / 8) 0).toNat / 2 ^ (7 - n % 8))).toNat = (l.toList.getD (n / 8) 0).toNat / 2 ^ (7 - n % 8) := by
      rw [UInt8.toNat_ofNat_of_lt']
      exact Nat.lt_of_le_of_lt (Nat.div_le_self _ _) (UInt8.toNat_lt _)
    rw [h8]
    generalize (l.toList.getD (n / 8) 0).toNat / 2 ^ (7 - n % 8) = m
    rcases Nat.mod_two_eq_zero_or_one m with q | q <;> simp [q]
  · by_cases h1 : i < 0
    · simp [h1, show ¬ 0 ≤ i by omega]
    · have h2 : 256 ≤ i := by omega
      simp [h1, h2, show 0 ≤ i by omega, bt_big l i.toNat (by omega), b01]

theorem tdiv_nat (m k : Nat) (hm : m < 256) (hk : 0 < k) : wrap64 (Int.tdiv (m : Int) (k : Int)) = ((m / k : Nat) : Int) := by
  have := Nat.div_le_self m k
  rw [Int.tdiv_eq_ediv_of_nonneg (by omega)]
  have e : (m : Int) / (k : Int) = ((m / k : Nat) : Int) := by simp
  rw [e]
  generalize m / k = q at *
  rw [wrap_id (by omega)]
theorem r01_Bit_eq (l : Lab) (i : Int) : r01_Bit l i = some (bitI l i) := by
  unfold r01_Bit bitI
  by_cases h : 0 ≤ i ∧ i < 256
  · obtain ⟨n, rfl⟩ := Int.eq_ofNat_of_zero_le h.1
    have hn : n < 256 := by omega
    have h1 : ¬ (n : Int) < 0 := by omega
    have h2 : ¬ 255 < (n : Int) := by omega
    simp only [h1, h2, decide_false, Bool.false_eq_true, if_false, some_bind, if_pos h.1, Int.toNat_natCast]
    rw [tdiv8 (by omega), tmod8, req_t (by omega), getV_lab]
    have hm : (l.toList.getD (n / 8) 0).toNat < 256 := UInt8.toNat_lt _
    have hit : iter r01_Bit_s1 (((n % 8 : Nat) : Int), (((l.toList.getD (n / 8) 0).toNat : Nat) : Int)) = some (7, (((l.toList.getD (n / 8) 0).toNat / 2 ^ (7 - n % 8) : Nat) : Int)) := by
      generalize (l.toList.getD (n / 8) 0).toNat = m at hm
      have := iter_to (step := r01_Bit_s1) (fun k => ((((n % 8 + k : Nat)) : Int), ((m / 2 ^ k : Nat) : Int))) (7 - n % 8) (b := (7, ((m / 2 ^ (7 - n % 8) : Nat) : Int))) (fun k hk => ?_) ?_
      · simpa using this
      · have h7 : ((n % 8 + k : Nat) : Int) < 7 := by omega
        simp only [r01_Bit_s1, h7, decide_true, if_true]
        have hq : m / 2 ^ k < 256 := Nat.lt_of_le_of_lt (Nat.div_le_self _ _) hm
        have := tdiv_nat (m / 2 ^ k) 2 hq (by omega)
        rw [wrap_id (by omega), show ((2 : Int)) = ((2 : Nat) : Int) from rfl, this, Nat.div_div_eq_div_mul, ← Nat.pow_succ]
        congr 2
      · have h7 : ¬ ((n % 8 + (7 - n % 8) : Nat) : Int) < 7 := by omega
        simp only [r01_Bit_s1, h7, decide_false, Bool.false_eq_true, if_false]
        congr 3; omega
    rw [hit]
    simp only [some_bind]
    congr 1
    unfold bt bt8 b01
    generalize (l.toList.getD (n / 8) 0).toNat / 2 ^ (7 - n % 8) = m
    rcases Nat.mod_two_eq_zero_or_one m with q | q <;> simp [q, Int.tmod_eq_emod_of_nonneg] <;> omega
  · by_cases h1 : i < 0
    · simp [h1, show ¬ 0 ≤ i by omega]
    · have h2 : 255 < i := by omega
      simp [h1, h2, show 0 ≤ i by omega, bt_big l i.toNat (by omega), b01]

theorem r01_Common_eq (l m : Lab) : r01_Common l m = some (com l m : Int) := by
  have h1 := com_le l m
  unfold r01_Common
  have := iter_to (step := r01_Common_s1 l m) (fun k => (k : Int)) (com l m) (b := (com l m : Int)) (fun k hk => ?_) ?_
  · rw [show ((0 : Int)) = ((0 : Nat) : Int) from rfl, this]; rfl
  · have hk2 : ((k : Nat) : Int) < 256 := by omega
    simp only [r01_Common_s1, hk2, decide_true, if_true, r01_Bit_eq, bitI_nat, some_bind, com_bt hk, beq_self_eq_true]
    rw [wrap_id (by omega)]; rfl
  · by_cases hc : com l m < 256
    · have hk2 : ((com l m : Nat) : Int) < 256 := by omega
      have hne := com_ne hc
      have hb : (b01 (bt l (com l m)) == b01 (bt m (com l m))) = false := by
        revert hne; cases bt l (com l m) <;> cases bt m (com l m) <;> simp [b01]
      simp [r01_Common_s1, hk2, r01_Bit_eq, bitI_nat, hb]
    · have hk2 : ¬ ((com l m : Nat) : Int) < 256 := by omega
      simp [r01_Common_s1, hk2]
theorem r01_Order_eq (a b : Lab) : r01_Order a b = some (ord a b) := by
  unfold r01_Order ord
  rw [r01_Common_eq, some_bind]
  by_cases h : com a b = 256
  · simp [h]
  · have h2 : (((com a b : Nat) : Int) == 256) = false := by simp; omega
    simp only [h2, Bool.false_eq_true, if_false, if_neg h, r01_Bit_eq, some_bind, bitI_nat]
    rw [wrap_id (n := 2 * b01 (bt a (com a b))) (by cases bt a (com a b) <;> simp [b01]), wrap_id (by cases bt a (com a b) <;> simp [b01])]

theorem lz8 (x : UInt8) (hx : x ≠ 0) : ∃ n, n < 8 ∧ (∀ k, k < n → bt8 x k = false) ∧ bt8 x n = true := by
  have h : ∃ n, n < 8 ∧ bt8 x n = true := by
    apply Classical.byContradiction
    intro hc
    apply hx
    apply bt8_ext
    intro k hk
    rw [bt8_zero]
    cases hb : bt8 x k with
    | false => rfl
    | true => exact absurd ⟨k, hk, hb⟩ hc
  obtain ⟨n, ⟨h1, h2⟩, h3⟩ := exists_least _ h
  refine ⟨n, h1, fun k hk => ?_, h2⟩
  cases hb : bt8 x k with
  | false => rfl
  | true => exact absurd ⟨by omega, hb⟩ (h3 k hk)
theorem bt8_hl (x : UInt8) (k : Nat) (h : k < 7) : bt8 (hl_u8 x 1) k = bt8 x (k + 1) := by
  unfold bt8 hl_u8
  have e : (UInt8.ofNat (x.toNat * 2 ^ (min (1 : Int).toNat 8))).toNat = x.toNat * 2 % 256 := by
    rw [UInt8.toNat_ofNat']; rfl
  rw [e]
  have hx := x.toNat_lt
  generalize x.toNat = m at hx
  have hk : k = 0 ∨ k = 1 ∨ k = 2 ∨ k = 3 ∨ k = 4 ∨ k = 5 ∨ k = 6 := by omega
  rcases hk with rfl | rfl | rfl | rfl | rfl | rfl | rfl <;> (simp only [Nat.reduceSub, Nat.reducePow, Nat.reduceAdd]; congr 1; omega)
theorem and128 (x : UInt8) : ((x &&& 128) == 0) = !bt8 x 0 := by
  have h1 : ∀ k, k < 8 → bt8 128 k = decide (k = 0) := by decide
  cases hb : bt8 x 0 with
  | true =>
    simp only [Bool.not_true, beq_eq_false_iff_ne]
    intro h
    have := congrArg (bt8 · 0) h
    simp only [bt8_zero] at this
    rw [bt8_and _ _ _ (by omega), hb, h1 _ (by omega)] at this
    cases this
  | false =>
    simp only [Bool.not_false, beq_iff_eq]
    apply bt8_ext
    intro k hk
    rw [bt8_and _ _ _ hk, h1 _ hk, bt8_zero]
    by_cases c : k = 0
    · subst c; simp [hb]
    · simp [c]
theorem bits_Common_eq (l m : Lab) : bits_Common l m = some (com l m : Int) := by
  have hc := com_le l m
  have go : ∀ j : Nat, j ≤ 32 → (∀ i, i < j → 8 * i + 8 ≤ com l m) → iter (bits_Common_s1 l m) (j : Int) = some (if com l m < 256 then .inl (com l m : Int) else .inr 32) := by
    intro j
    generalize hd : 32 - j = d
    induction d generalizing j with
    | zero =>
      intro hj h
      have : j = 32 := by omega
      subst this
      have := h 31 (by omega)
      rw [if_neg (by omega)]
      refine iter_end ?_
      simp only [bits_Common_s1, show ¬ (((32 : Nat)) : Int) < 32 by omega, decide_false, Bool.false_eq_true, if_false]
      rfl
    | succ d ih =>
      intro hj h
      have hj2 : ((j : Nat) : Int) < 32 := by omega
      have hjn : j < 32 := by omega
      have hb : ∀ k, k < 8 → bt8 (getV l (j : Int) ^^^ getV m (j : Int)) k = (bt l (8 * j + k) ^^ bt m (8 * j + k)) := fun k hk => by
        rw [bt8_xor _ _ _ hk, getV_nat _ _ hjn, getV_nat _ _ hjn, bt_at _ _ _ hjn hk, bt_at _ _ _ hjn hk]
      by_cases hx : getV l (j : Int) ^^^ getV m (j : Int) = 0
      · have h8 : 8 * j + 8 ≤ com l m := by
          refine le_com (by omega) fun k hk => ?_
          rcases Nat.lt_or_ge k (8 * j) with c | c
          · have := h (k / 8) (by omega); exact com_bt (by omega)
          · have := hb (k - 8 * j) (by omega)
            rw [hx, bt8_zero, show 8 * j + (k - 8 * j) = k from by omega] at this
            revert this; cases bt l k <;> cases bt m k <;> simp
        refine iter_next (s' := ((j + 1 : Nat) : Int)) ?_ (ih (j + 1) (by omega) (by omega) fun i hi => ?_)
        · simp only [bits_Common_s1, dec_t hj2, if_true]
          rw [req_t (by omega), req_t (by omega), hx]
          simp only [bne_self_eq_false, Bool.false_eq_true, if_false]
          rw [wrap_id (by omega)]
          rfl
        · rcases Nat.lt_or_ge i j with c | c
          · exact h i c
          · have : i = j := by omega
            subst this; exact h8
      · obtain ⟨n, hn, h0, h1⟩ := lz8 _ hx
        have hcom : com l m = 8 * j + n := by
          refine com_eq (by omega) (fun k hk => ?_) (fun _ => ?_)
          · rcases Nat.lt_or_ge k (8 * j) with c | c
            · have := h (k / 8) (by omega); exact com_bt (by omega)
            · have := hb (k - 8 * j) (by omega)
              rw [h0 _ (by omega), show 8 * j + (k - 8 * j) = k from by omega] at this
              revert this; cases bt l k <;> cases bt m k <;> simp
          · have := hb n hn
            rw [h1] at this
            intro e; rw [e] at this; simp at this
        rw [if_pos (by omega)]
        refine iter_end ?_
        have hne : ((getV l (j : Int) ^^^ getV m (j : Int)) != 0) = true := by simpa using hx
        simp only [bits_Common_s1, dec_t hj2, if_true]
        rw [req_t (by omega), req_t (by omega), if_pos hne, wrap_id (by omega)]
        generalize getV l (j : Int) ^^^ getV m (j : Int) = x at h0 h1
        have hit := iter_to (step := bits_Common_s2) (fun k => (((8 * j + k : Nat) : Int), Nat.rec (motive := fun _ => UInt8) x (fun _ y => hl_u8 y 1) k)) n (b := (((8 * j + n : Nat) : Int), Nat.rec (motive := fun _ => UInt8) x (fun _ y => hl_u8 y 1) n)) (fun k hk => ?_) ?_
        · have e0 : ((8 : Int) * ((j : Nat) : Int)) = ((8 * j + 0 : Nat) : Int) := by omega
          rw [e0]
          rw [show (Nat.rec (motive := fun _ => UInt8) x (fun _ y => hl_u8 y 1) 0) = x from rfl] at hit
          rw [hit, some_bind, hcom]
        all_goals
          have hk8 : ∀ k, k ≤ n → ∀ i, i + k < 8 → bt8 (Nat.rec (motive := fun _ => UInt8) x (fun _ y => hl_u8 y 1) k) i = bt8 x (i + k) := by
            intro k
            induction k with
            | zero => intro _ i _; rfl
            | succ k ih2 =>
              intro hk i hi
              show bt8 (hl_u8 (Nat.rec (motive := fun _ => UInt8) x (fun _ y => hl_u8 y 1) k) 1) i = _
              rw [bt8_hl _ _ (by omega), ih2 (by omega) (i + 1) (by omega)]
              congr 1; omega
        · simp only [bits_Common_s2]
          rw [and128, hk8 k (by omega) 0 (by omega), Nat.zero_add, h0 k hk, wrap_id (by omega)]
          rfl
        · simp only [bits_Common_s2]
          rw [and128, hk8 n (by omega) 0 (by omega), Nat.zero_add, h1]
          rfl
  unfold bits_Common
  rw [show ((0 : Int)) = ((0 : Nat) : Int) from rfl, go 0 (by omega) (by omega), some_bind]
  by_cases h : com l m < 256
  · rw [if_pos h]
  · rw [if_neg h]; show some (256 : Int) = _; rw [show com l m = 256 by omega]; rfl
end
end Go.Ch
end
section
/- What the functions on bits come to: the order, beginnings. -/
set_option linter.unusedVariables false
set_option linter.unusedSimpArgs false
namespace Go.Ch
open Go.RowKit (wrap64)
noncomputable section

theorem u8_bits_sum (x : UInt8) : x.toNat = (bt8 x 0).toNat * 128 + (bt8 x 1).toNat * 64 + (bt8 x 2).toNat * 32 + (bt8 x 3).toNat * 16 + (bt8 x 4).toNat * 8 + (bt8 x 5).toNat * 4 + (bt8 x 6).toNat * 2 + (bt8 x 7).toNat := by
  have e : x = mk8 (bt8 x) := bt8_ext _ _ fun k hk => (bt8_mk8 _ _ hk).symm
  have h0 : ∀ b : Bool, b.toNat ≤ 1 := fun b => by cases b <;> simp
  have := congrArg UInt8.toNat e
  unfold mk8 at this
  rw [UInt8.toNat_ofNat_of_lt' (by have := h0 (bt8 x 0); have := h0 (bt8 x 1); have := h0 (bt8 x 2); have := h0 (bt8 x 3); have := h0 (bt8 x 4); have := h0 (bt8 x 5); have := h0 (bt8 x 6); have := h0 (bt8 x 7); show _ < 256; omega)] at this
  exact this
theorem u8_lt_of (x y : UInt8) (n : Nat) (hn : n < 8) (h : ∀ k, k < n → bt8 x k = bt8 y k) (h0 : bt8 x n = false) (h1 : bt8 y n = true) : x < y := by
  rw [UInt8.lt_iff_toNat_lt]
  have ex := u8_bits_sum x
  have ey := u8_bits_sum y
  have hb : ∀ b : Bool, b.toNat ≤ 1 := fun b => by cases b <;> simp
  have h' : ∀ k, k < n → (bt8 x k).toNat = (bt8 y k).toNat := fun k hk => by rw [h k hk]
  have b1 := hb (bt8 x 1); have b2 := hb (bt8 x 2); have b3 := hb (bt8 x 3); have b4 := hb (bt8 x 4); have b5 := hb (bt8 x 5); have b6 := hb (bt8 x 6); have b7 := hb (bt8 x 7)
  have hn' : n = 0 ∨ n = 1 ∨ n = 2 ∨ n = 3 ∨ n = 4 ∨ n = 5 ∨ n = 6 ∨ n = 7 := by omega
  rcases hn' with rfl | rfl | rfl | rfl | rfl | rfl | rfl | rfl <;> simp only [h0, h1, Bool.toNat_false, Bool.toNat_true] at ex ey
  · omega
  · have := h' 0 (by omega); omega
  · have := h' 0 (by omega); have := h' 1 (by omega); omega
  · have := h' 0 (by omega); have := h' 1 (by omega); have := h' 2 (by omega); omega
  · have := h' 0 (by omega); have := h' 1 (by omega); have := h' 2 (by omega); have := h' 3 (by omega); omega
  · have := h' 0 (by omega); have := h' 1 (by omega); have := h' 2 (by omega); have := h' 3 (by omega); have := h' 4 (by omega); omega
  · have := h' 0 (by omega); have := h' 1 (by omega); have := h' 2 (by omega); have := h' 3 (by omega); have := h' 4 (by omega); have := h' 5 (by omega); omega
  · have := h' 0 (by omega); have := h' 1 (by omega); have := h' 2 (by omega); have := h' 3 (by omega); have := h' 4 (by omega); have := h' 5 (by omega); have := h' 6 (by omega); omega
theorem zL_get (j : Nat) (h : j < 32) : (zL : Lab)[j] = 0 := by unfold zL; exact Vector.getElem_replicate _
theorem getD_lab (l : Lab) (i : Nat) (h : i < 32) : l.toList.getD i 0 = l[i] := by simp [List.getD_eq_getElem?_getD, h]
theorem cmpB_ord (a b : Lab) : cmpB a.toList b.toList = ord a b := by
  unfold cmpB Extern.BytealgCompare.cmp
  simp only [Lib.get!_eq]
  have hs : ∀ l : Lab, (ByteArray.mk l.toList.toArray).size = 32 := fun l => by simp [ByteArray.size]
  rw [hs, hs]
  cases h : (List.range (min 32 32)).find? fun i => a.toList.getD i 0 != b.toList.getD i 0 with
  | none =>
    rw [List.find?_eq_none] at h
    have e : a = b := by
      apply Vector.ext
      intro i hi
      have := h i (by simpa using hi)
      rw [getD_lab _ _ hi, getD_lab _ _ hi] at this
      simpa using this
    subst e
    simp [ord, com_self]
  | some i =>
    obtain ⟨h1, us, vs, h2, h3⟩ := List.find?_eq_some_iff_append.1 h
    have hr : List.range (min 32 32) = List.range 32 := rfl
    rw [hr] at h2
    have hi : i < 32 := by
      have : i ∈ List.range 32 := by rw [h2]; simp
      simpa using this
    have hlen : us.length = i := by
      have h5 : (List.range 32)[us.length]? = some i := by rw [h2]; simp
      have h6 : us.length < 32 := by have := congrArg List.length h2; simp at this; omega
      rw [List.getElem?_range h6] at h5
      exact Option.some.inj h5
    have heq : ∀ (j : Nat) (hj : j < i), a[j]'(by omega) = b[j]'(by omega) := fun j hj => by
      have hm : j ∈ us := by
        have := congrArg (·[j]?) h2
        simp only [List.getElem?_append_left (show j < us.length by omega)] at this
        rw [List.getElem?_range (by omega)] at this
        exact List.mem_of_getElem? this.symm
      have := h3 j hm
      rw [getD_lab _ _ (by omega), getD_lab _ _ (by omega)] at this
      simpa using this
    rw [getD_lab _ _ hi, getD_lab _ _ hi] at h1
    have hne : a[i] ^^^ b[i] ≠ 0 := by
      intro e
      have : a[i] = b[i] := UInt8.xor_eq_zero_iff.1 e
      simp [this] at h1
    obtain ⟨n, hn, h0, hb⟩ := lz8 _ hne
    have hx : ∀ k, k < 8 → bt8 (a[i] ^^^ b[i]) k = (bt8 a[i] k ^^ bt8 b[i] k) := fun k hk => bt8_xor _ _ _ hk
    have hcom : com a b = 8 * i + n := by
      refine com_eq (by omega) (fun k hk => ?_) (fun _ => ?_)
      · rcases Nat.lt_or_ge k (8 * i) with c | c
        · rw [bt_byte _ _ (by omega), bt_byte _ _ (by omega), heq _ (by omega)]
        · have := hx (k - 8 * i) (by omega)
          rw [h0 _ (by omega)] at this
          have e : k = 8 * i + (k - 8 * i) := by omega
          rw [e, bt_at _ _ _ hi (by omega), bt_at _ _ _ hi (by omega)]
          revert this; cases bt8 a[i] (k - 8 * i) <;> cases bt8 b[i] (k - 8 * i) <;> simp
      · rw [bt_at _ _ _ hi hn, bt_at _ _ _ hi hn]
        have := hx n hn
        rw [hb] at this
        intro e; rw [e] at this; simp at this
    have hpre : ∀ k, k < n → bt8 a[i] k = bt8 b[i] k := fun k hk => by
      have := hx k (by omega)
      rw [h0 k hk] at this
      revert this; cases bt8 a[i] k <;> cases bt8 b[i] k <;> simp
    have hlast := hx n hn
    rw [hb] at hlast
    simp only
    rw [getD_lab _ _ hi, getD_lab _ _ hi]
    unfold ord
    rw [hcom, if_neg (show ¬ 8 * i + n = 256 by omega), bt_at _ _ _ hi hn]
    cases q : bt8 a[i] n with
    | false =>
      rw [q] at hlast
      rw [if_pos (u8_lt_of _ _ n hn hpre q (by simpa using hlast.symm))]; rfl
    | true =>
      rw [q] at hlast
      have := u8_lt_of b[i] a[i] n hn (fun k hk => (hpre k hk).symm) (by simpa using hlast.symm) q
      rw [if_neg (by rw [UInt8.lt_iff_toNat_lt] at *; omega)]; rfl
theorem bits_Order_eq (a b : Lab) : bits_Order a b = some (ord a b) := by
  unfold bits_Order bytes_Compare; rw [some_bind, cmpB_ord]

/-! ### beginnings -/
def clampN (n : Int) : Nat := (max 0 (min n 256)).toNat
theorem clampN_le (n : Int) : clampN n ≤ 256 := by unfold clampN; omega
theorem clampN_cast (n : Int) : max 0 (min n 256) = (clampN n : Int) := by unfold clampN; omega
theorem bt8_mask (x : UInt8) (m k : Nat) (hm : m < 8) (hk : k < 8) : bt8 (x &&& ~~~(hr_u8 255 (m : Int))) k = (decide (k < m) && bt8 x k) := by
  rw [bt8_and _ _ _ hk, Bool.and_comm]
  congr 1
  have key : ∀ m k : Fin 8, bt8 (~~~(hr_u8 255 ((m.1 : Nat) : Int))) k.1 = decide (k.1 < m.1) := by decide
  exact key ⟨m, hm⟩ ⟨k, hk⟩
theorem overV_take (l : Lab) (n : Nat) (hn : n ≤ 32) (i : Nat) (hi : i < 32) : (overV zL (l.toList.take n))[i] = if i < n then l[i] else 0 := by
  have e : (overV zL (l.toList.take n))[i] = (overV zL (l.toList.take n)).toList[i]'(by simp [hi]) := by simp
  rw [e]
  simp only [overV_toList, overL]
  rw [List.getElem_append]
  simp only [List.length_take, Vector.length_toList, List.getElem_take, List.getElem_drop]
  by_cases h : i < n
  · rw [dif_pos (by omega), if_pos h]; simp
  · rw [dif_neg (by omega), if_neg h, Vector.getElem_toList]; exact zL_get _ _
theorem bits_Cut_eq (l : Lab) (n : Int) : bits_Cut l n = some ⟨(clampN n : Int), cut l (clampN n)⟩ := by
  have hc := clampN_le n
  unfold bits_Cut
  simp only [clampN_cast]
  generalize clampN n = c at hc
  rw [tdiv8 hc, tmod8, req_t (by omega)]
  simp only [Int.toNat_natCast]
  rw [req_t (by rw [List.length_take, Vector.length_toList]; omega)]
  by_cases h : c % 8 = 0
  · have : ((((c % 8 : Nat)) : Int) != 0) = false := by simp [h]
    simp only [this, Bool.false_eq_true, if_false]
    refine congrArg (fun z : Lab => some (⟨(c : Int), z⟩ : Pfx)) (lab_ext fun i hi => ?_)
    rw [bt_cut, bt_byte _ _ hi, bt_byte _ _ hi, overV_take _ _ (by omega) _ (by omega)]
    by_cases q : i < c
    · rw [if_pos (by omega)]; simp [q]
    · rw [if_neg (by omega)]; simp [q, bt8_zero]
  · have : ((((c % 8 : Nat)) : Int) != 0) = true := by simp; omega
    simp only [this, if_true]
    have hj : c / 8 < 32 := by omega
    rw [req_t (by omega), req_t (by omega), req_t (by omega)]
    rw [setV_nat _ _ _ hj, getV_nat _ _ hj]
    refine congrArg (fun z : Lab => some (⟨(c : Int), z⟩ : Pfx)) (lab_ext fun i hi => ?_)
    rw [bt_cut, bt_byte _ _ hi, bt_byte _ _ hi]
    rw [Vector.getElem_set]
    by_cases q : c / 8 = i / 8
    · rw [if_pos q, bt8_mask _ _ _ (by omega) (by omega)]
      congr 1
      · congr 1; simp; omega
      · congr 1; simp [q]
    · rw [if_neg q, overV_take _ _ (by omega) _ (by omega)]
      by_cases q2 : i < c
      · rw [if_pos (by omega)]; simp [q2]
      · rw [if_neg (by omega)]; simp [q2, bt8_zero]
theorem clampN_id {n : Int} (h : 0 ≤ n ∧ n ≤ 256) : (clampN n : Int) = n ∧ clampN n = n.toNat := by unfold clampN; omega
theorem bits_Good_eq (p : Pfx) : bits_Good p = some (goodB p.len p.bits) := by
  unfold bits_Good goodB
  rw [bits_Cut_eq]
  by_cases h1 : 0 ≤ p.len
  · by_cases h2 : p.len ≤ 256
    · obtain ⟨e1, e2⟩ := clampN_id ⟨h1, h2⟩
      simp only [h1, h2, decide_true, if_true, some_bind, and_self, Bool.true_and, e1, beq_self_eq_true, Bool.and_true]
      rw [← e2]
    · simp [h1, h2]
  · simp [h1]
def hasB (n : Int) (p l : Lab) : Bool := goodB n p && decide (n ≤ (com p l : Int))
theorem bits_Has_eq (p : Pfx) (l : Lab) : bits_Prefix_Has p l = some (hasB p.len p.bits l) := by
  unfold bits_Prefix_Has hasB
  rw [bits_Good_eq, some_bind, bits_Common_eq]
  cases goodB p.len p.bits <;> simp
def overB (n : Int) (p : Lab) (m : Int) (q : Lab) : Bool := goodB m q && decide (n ≤ m) && hasB n p q
theorem bits_Over_eq (p q : Pfx) : bits_Prefix_Over p q = some (overB p.len p.bits q.len q.bits) := by
  unfold bits_Prefix_Over overB
  rw [bits_Good_eq, some_bind, bits_Has_eq]
  cases goodB q.len q.bits <;> cases decide (p.len ≤ q.len) <;> simp
end
end Go.Ch
end
section
/- What the document's functions on bits come to. -/
set_option linter.unusedVariables false
set_option linter.unusedSimpArgs false
namespace Go.Ch
open Go.RowKit (wrap64)
noncomputable section

theorem bt8_set (x : UInt8) (k m : Nat) (hk : k < 8) (hm : m < 8) (h : bt8 x k = false) : bt8 (x + UInt8.ofNat (2 ^ (7 - k))) m = (decide (m = k) || bt8 x m) := by
  have e : x + UInt8.ofNat (2 ^ (7 - k)) = mk8 fun m => decide (m = k) || bt8 x m := by
    apply UInt8.toNat_inj.1
    unfold mk8
    have hb : ∀ b : Bool, b.toNat ≤ 1 := fun b => by cases b <;> simp
    have b0 := hb (bt8 x 0); have b1 := hb (bt8 x 1); have b2 := hb (bt8 x 2); have b3 := hb (bt8 x 3); have b4 := hb (bt8 x 4); have b5 := hb (bt8 x 5); have b6 := hb (bt8 x 6); have b7 := hb (bt8 x 7)
    have ex := u8_bits_sum x
    have hk' : k = 0 ∨ k = 1 ∨ k = 2 ∨ k = 3 ∨ k = 4 ∨ k = 5 ∨ k = 6 ∨ k = 7 := by omega
    rcases hk' with rfl | rfl | rfl | rfl | rfl | rfl | rfl | rfl <;> simp [UInt8.toNat_add, h] at ex ⊢ <;> omega
  rw [e, bt8_mk8 _ _ hm]
theorem bt_setV (l : Lab) (i j : Nat) (hi : i < 256) (hj : j < 256) (h : bt l i = false) : bt (setV l ((i / 8 : Nat) : Int) (getV l ((i / 8 : Nat) : Int) + UInt8.ofNat (2 ^ (7 - i % 8)))) j = (decide (j = i) || bt l j) := by
  rw [setV_nat _ _ _ (by omega), getV_nat _ _ (by omega), bt_byte _ _ hj, bt_byte l _ hj, Vector.getElem_set]
  rw [bt_byte _ _ hi] at h
  by_cases q : i / 8 = j / 8
  · rw [if_pos q, bt8_set _ _ _ (by omega) (by omega) h]
    congr 1
    · congr 1; simp; omega
    · congr 1; simp [q]
  · rw [if_neg q]
    have : decide (j = i) = false := by simp; rintro rfl; exact q rfl
    rw [this]; rfl
theorem r01_Set_eq (l : Lab) (i : Nat) (hi : i < 256) (h : bt l i = false) : r01_Set l (i : Int) = some (setV l ((i / 8 : Nat) : Int) (getV l ((i / 8 : Nat) : Int) + UInt8.ofNat (2 ^ (7 - i % 8)))) := by
  unfold r01_Set
  rw [tmod8]
  have hit := iter_to (step := r01_Set_s1) (fun k => (((i % 8 + k : Nat) : Int), UInt8.ofNat (2 ^ k))) (7 - i % 8) (b := (7, UInt8.ofNat (2 ^ (7 - i % 8)))) (fun k hk => ?_) ?_
  · simp only [Nat.add_zero, Nat.pow_zero] at hit
    rw [show (1 : UInt8) = UInt8.ofNat 1 from rfl, hit, some_bind]
    simp only [r01_Bit_eq, bitI_nat, some_bind, h]
    rw [tdiv8 (by omega)]
    simp only [b01, Bool.false_eq_true, if_false, beq_self_eq_true, if_true]
    rw [req_t (by omega), req_t (by omega)]
  · have h7 : ((i % 8 + k : Nat) : Int) < 7 := by omega
    simp only [r01_Set_s1, dec_t h7, if_true]
    rw [wrap_id (by omega)]
    have : (2 : UInt8) * UInt8.ofNat (2 ^ k) = UInt8.ofNat (2 ^ (k + 1)) := by
      rw [Nat.pow_succ, Nat.mul_comm, UInt8.ofNat_mul]; rfl
    rw [this]; rfl
  · have h7 : ¬ ((i % 8 + (7 - i % 8) : Nat) : Int) < 7 := by omega
    simp only [r01_Set_s1, dec_f h7, Bool.false_eq_true, if_false]
    congr 3; omega
theorem cut_zero (l : Lab) : cut l 0 = zL := lab_ext fun i hi => by rw [bt_cut, bt_zL]; simp
theorem cut_succ_t (l : Lab) (n : Nat) (hn : n < 256) (h : bt l n = true) : setV (cut l n) ((n / 8 : Nat) : Int) (getV (cut l n) ((n / 8 : Nat) : Int) + UInt8.ofNat (2 ^ (7 - n % 8))) = cut l (n + 1) := lab_ext fun i hi => by
  rw [bt_setV _ _ _ hn hi (by rw [bt_cut]; simp), bt_cut, bt_cut]
  by_cases c : i = n
  · subst c; simp [h]
  · simp [c]; congr 1; simp; omega
theorem cut_succ_f (l : Lab) (n : Nat) (hn : n < 256) (h : bt l n = false) : cut l n = cut l (n + 1) := lab_ext fun i hi => by
  rw [bt_cut, bt_cut]
  by_cases c : i = n
  · subst c; simp [h]
  · congr 1; simp; omega
theorem r01_Cut_eq (l : Lab) (n : Int) : r01_Cut l n = some (cut l (clampN n)) := by
  have hc := clampN_le n
  unfold r01_Cut
  have hit := iter_to (step := r01_Cut_s1 l n) (fun k => ((k : Int), cut l k)) (clampN n) (b := ((clampN n : Int), cut l (clampN n))) (fun k hk => ?_) ?_
  · simp only [cut_zero] at hit
    rw [show ((0 : Int)) = ((0 : Nat) : Int) from rfl, hit, some_bind]
  · have hk1 : (k : Int) < n := by unfold clampN at hk; omega
    have hk2 : (k : Int) < 256 := by omega
    simp only [r01_Cut_s1, dec_t hk1, dec_t hk2, if_true, some_bind, r01_Bit_eq, bitI_nat]
    rw [wrap_id (by omega)]
    cases hb : bt l k with
    | true =>
      simp only [b01_one, if_true]
      rw [r01_Set_eq _ _ (by omega) (by rw [bt_cut]; simp), some_bind, cut_succ_t _ _ (by omega) hb]
      rfl
    | false =>
      simp only [b01_one, Bool.false_eq_true, if_false]
      rw [← cut_succ_f _ _ (by omega) hb]
      rfl
  · simp only [r01_Cut_s1]
    by_cases h1 : ((clampN n : Nat) : Int) < n
    · have h2 : ¬ ((clampN n : Nat) : Int) < 256 := by unfold clampN at *; omega
      simp only [dec_t h1, dec_f h2, if_true, some_bind, Bool.false_eq_true, if_false]
    · simp only [dec_f h1, Bool.false_eq_true, if_false, some_bind]
theorem r01_Good_eq (n : Int) (l : Lab) : r01_Good n l = some (goodB n l) := by
  unfold r01_Good goodB
  rw [r01_Cut_eq]
  by_cases h1 : 0 ≤ n
  · by_cases h2 : n ≤ 256
    · obtain ⟨e1, e2⟩ := clampN_id ⟨h1, h2⟩
      simp [h1, h2, e2]
    · simp [h1, h2]
  · simp [h1]
theorem r18_has_eq (x : Item) (l : Lab) : r18_has x l = some (cut l (clampN x.len) == x.bits) := by
  unfold r18_has; rw [r01_Cut_eq, some_bind]
/-- Of an item in form the two 'has' are one. -/
theorem has_same {n : Int} {p l : Lab} (h : goodB n p = true) : (cut l (clampN n) == p) = hasB n p l := by
  obtain ⟨h1, h2, h3⟩ := good_iff.1 h
  have e := cut_is (l := l) h
  rw [(clampN_id ⟨h1, h2⟩).2]
  unfold hasB
  rw [h, Bool.true_and]
  by_cases c : n ≤ (com p l : Int)
  · simp [c, e.2 c]
  · have : ¬ cut l n.toNat = p := fun q => c (e.1 q)
    simp [c, this]
end
end Go.Ch
end
section
/- The sums: both come to one thing. -/
set_option linter.unusedVariables false
set_option linter.unusedSimpArgs false
namespace Go.Ch
open Go.RowKit (wrap64)
noncomputable section

theorem req_f {c : Prop} [Decidable c] {α : Type} {f : Unit → Option α} (h : ¬ c) : (req c).bind f = none := by simp [req, h]
/-- Two loops that do the same, over a stretch of rounds. -/
theorem iter_two {σ : Type} {step step' : Int × σ → Option ((Int × σ) ⊕ (Int × σ))} (n : Nat)
    (e : ∀ s, step ((n : Int), s) = some (.inr ((n : Int), s)) ∧ step' ((n : Int), s) = some (.inr ((n : Int), s))) :
    ∀ (d m : Nat), m + d = n → (∀ k s, m ≤ k → k < n → ∃ s', step ((k : Int), s) = some (.inl (((k + 1 : Nat) : Int), s')) ∧ step' ((k : Int), s) = some (.inl (((k + 1 : Nat) : Int), s'))) →
      ∀ s, ∃ r, iter step ((m : Int), s) = some ((n : Int), r) ∧ iter step' ((m : Int), s) = some ((n : Int), r)
  | 0, m, hm, h, s => by
    have : m = n := by omega
    subst this
    exact ⟨s, iter_end (e s).1, iter_end (e s).2⟩
  | d + 1, m, hm, h, s => by
    obtain ⟨s', h1, h2⟩ := h m s (Nat.le_refl _) (by omega)
    obtain ⟨r, h3, h4⟩ := iter_two n e d (m + 1) (by omega) (fun k s hk hk2 => h k s (by omega) hk2) s'
    exact ⟨r, iter_next h1 h3, iter_next h2 h4⟩

/-! ### words -/
def rot (x : UInt32) (n : Nat) : UInt32 := hr_u32 x n ||| hl_u32 x ((32 - n : Nat) : Int)
theorem turn_eq (x : UInt32) (n : Nat) (h0 : 0 < n) (h : n < 32) : sha_turn x (n : Int) = some (rot x n) := by
  unfold sha_turn bits_RotateLeft32
  rw [some_bind]
  have key : ∀ n : Fin 32, 0 < n.1 → (u64I (wrap64 (-((n.1 : Nat) : Int))) &&& 31).toNat = 32 - n.1 ∧ (32 - (u64I (wrap64 (-((n.1 : Nat) : Int))) &&& 31)).toNat = n.1 := by decide +kernel
  obtain ⟨h1, h2⟩ := key ⟨n, h⟩ h0
  simp only at h1 h2
  rw [h1, h2]
  unfold rot
  rw [UInt32.or_comm]
theorem right_eq (x : UInt32) (n : Nat) (h0 : 0 < n) (h : n < 32) : r03_right x (n : Int) = some (rot x n) := by
  unfold r03_right
  rw [wrap_id (by omega), req_t (by omega), req_t (by omega)]
  unfold rot
  rw [show ((32 : Int) - (n : Int)) = ((32 - n : Nat) : Int) by omega]
theorem hl_byte (a : UInt8) (k : Nat) (h : k ≤ 24) : (hl_u32 a.toUInt32 (k : Int)).toNat = a.toNat * 2 ^ k := by
  unfold hl_u32
  have ha := a.toNat_lt
  have e : min ((k : Int)).toNat 32 = k := by omega
  rw [e, UInt8.toNat_toUInt32, UInt32.toNat_ofNat_of_lt']
  show _ < 2 ^ 32
  have h1 : 2 ^ k ≤ 2 ^ 24 := Nat.pow_le_pow_right (by omega) h
  calc a.toNat * 2 ^ k ≤ 255 * 2 ^ 24 := Nat.mul_le_mul (by omega) h1
    _ < 2 ^ 32 := by decide
theorem or_add (a b k : Nat) (h : b < 2 ^ k) : a * 2 ^ k ||| b = a * 2 ^ k + b := by
  rw [Nat.mul_comm, Nat.two_pow_add_eq_or_of_lt h]
theorem word_eq (a b c d : UInt8) : (((hl_u32 a.toUInt32 24) ||| (hl_u32 b.toUInt32 16)) ||| (hl_u32 c.toUInt32 8)) ||| d.toUInt32 =
    (((hl_u32 (a.toUInt32 * 1) 24) + (hl_u32 (b.toUInt32 * 1) 16)) + (hl_u32 (c.toUInt32 * 1) 8)) + d.toUInt32 := by
  have h1 : ∀ x : UInt32, x * 1 = x := fun x => UInt32.mul_one x
  rw [h1, h1, h1]
  apply UInt32.toNat_inj.1
  have ea := hl_byte a 24 (by omega)
  have eb := hl_byte b 16 (by omega)
  have ec := hl_byte c 8 (by omega)
  have ha := a.toNat_lt
  have hb := b.toNat_lt
  have hc := c.toNat_lt
  have hd := d.toNat_lt
  simp only [Int.cast_ofNat_Int] at ea eb ec
  rw [UInt32.toNat_or, UInt32.toNat_or, UInt32.toNat_or, UInt32.toNat_add, UInt32.toNat_add, UInt32.toNat_add]
  rw [ea, eb, ec, UInt8.toNat_toUInt32]
  have o1 : a.toNat * 2 ^ 24 ||| b.toNat * 2 ^ 16 = (a.toNat * 2 ^ 8 + b.toNat) * 2 ^ 16 := by
    rw [or_add _ _ 24 (by omega)]; omega
  have o2 : (a.toNat * 2 ^ 8 + b.toNat) * 2 ^ 16 ||| c.toNat * 2 ^ 8 = ((a.toNat * 2 ^ 8 + b.toNat) * 2 ^ 8 + c.toNat) * 2 ^ 8 := by
    rw [or_add _ _ 16 (by omega)]; omega
  rw [o1, o2, or_add _ _ 8 (by omega)]
  omega
theorem compl_eq (x : UInt32) : 4294967295 - x = ~~~x := by
  apply UInt32.toBitVec_inj.1
  rw [UInt32.toBitVec_not, UInt32.toBitVec_sub]
  apply BitVec.eq_of_toNat_eq
  rw [BitVec.toNat_sub, BitVec.toNat_not]
  have := x.toBitVec.isLt
  show (2 ^ 32 - x.toBitVec.toNat + 4294967295) % 2 ^ 32 = 2 ^ 32 - 1 - x.toBitVec.toNat
  omega
theorem ch_eq (e f g : UInt32) : ((e &&& f) ||| ((4294967295 - e) &&& g)) = ((e &&& f) ^^^ ((~~~e) &&& g)) := by
  rw [compl_eq]
  apply UInt32.toBitVec_inj.1
  simp only [UInt32.toBitVec_or, UInt32.toBitVec_and, UInt32.toBitVec_xor, UInt32.toBitVec_not]
  apply BitVec.eq_of_getLsbD_eq
  intro i hi
  simp only [BitVec.getLsbD_or, BitVec.getLsbD_and, BitVec.getLsbD_xor, BitVec.getLsbD_not, hi, decide_true, Bool.true_and]
  cases e.toBitVec.getLsbD i <;> cases f.toBitVec.getLsbD i <;> cases g.toBitVec.getLsbD i <;> rfl
theorem maj_eq (a b c : UInt32) : (((a &&& b) ||| (a &&& c)) ||| (b &&& c)) = (((a &&& b) ^^^ (a &&& c)) ^^^ (b &&& c)) := by
  apply UInt32.toBitVec_inj.1
  simp only [UInt32.toBitVec_or, UInt32.toBitVec_and, UInt32.toBitVec_xor]
  apply BitVec.eq_of_getLsbD_eq
  intro i hi
  simp only [BitVec.getLsbD_or, BitVec.getLsbD_and, BitVec.getLsbD_xor]
  cases a.toBitVec.getLsbD i <;> cases b.toBitVec.getLsbD i <;> cases c.toBitVec.getLsbD i <;> rfl

theorem turn' (x : UInt32) : sha_turn x 6 = some (rot x 6) ∧ sha_turn x 11 = some (rot x 11) ∧ sha_turn x 25 = some (rot x 25) ∧ sha_turn x 2 = some (rot x 2) ∧ sha_turn x 13 = some (rot x 13) ∧ sha_turn x 22 = some (rot x 22) ∧ sha_turn x 7 = some (rot x 7) ∧ sha_turn x 18 = some (rot x 18) ∧ sha_turn x 17 = some (rot x 17) ∧ sha_turn x 19 = some (rot x 19) :=
  ⟨turn_eq x 6 (by omega) (by omega), turn_eq x 11 (by omega) (by omega), turn_eq x 25 (by omega) (by omega), turn_eq x 2 (by omega) (by omega), turn_eq x 13 (by omega) (by omega), turn_eq x 22 (by omega) (by omega), turn_eq x 7 (by omega) (by omega), turn_eq x 18 (by omega) (by omega), turn_eq x 17 (by omega) (by omega), turn_eq x 19 (by omega) (by omega)⟩
theorem right' (x : UInt32) : r03_right x 6 = some (rot x 6) ∧ r03_right x 11 = some (rot x 11) ∧ r03_right x 25 = some (rot x 25) ∧ r03_right x 2 = some (rot x 2) ∧ r03_right x 13 = some (rot x 13) ∧ r03_right x 22 = some (rot x 22) ∧ r03_right x 7 = some (rot x 7) ∧ r03_right x 18 = some (rot x 18) ∧ r03_right x 17 = some (rot x 17) ∧ r03_right x 19 = some (rot x 19) :=
  ⟨right_eq x 6 (by omega) (by omega), right_eq x 11 (by omega) (by omega), right_eq x 25 (by omega) (by omega), right_eq x 2 (by omega) (by omega), right_eq x 13 (by omega) (by omega), right_eq x 22 (by omega) (by omega), right_eq x 7 (by omega) (by omega), right_eq x 18 (by omega) (by omega), right_eq x 17 (by omega) (by omega), right_eq x 19 (by omega) (by omega)⟩

/-! ### a block -/
theorem words_one (b : List UInt8) (hb : b.length = 64) (s : Vector UInt32 64) : ∃ r, iter (sha_state_mix_s1 b) (0, s) = some (16, r) ∧ iter (r03_Words_s1 b) (0, s) = some (16, r) := by
  refine iter_two 16 (fun s => ⟨rfl, rfl⟩) 16 0 rfl (fun k s _ hk => ?_) s
  have h1 : (k : Int) < 16 := by omega
  apply Exists.intro; apply And.intro
  · simp only [sha_state_mix_s1, dec_t h1, if_true]
    rw [wrap_id (n := (4 : Int) * k) (by omega), wrap_id (n := (4 : Int) * k + 1) (by omega), wrap_id (n := (4 : Int) * k + 2) (by omega), wrap_id (n := (4 : Int) * k + 3) (by omega)]
    rw [req_t (by rw [lenI, hb]; omega), req_t (by rw [lenI, hb]; omega), req_t (by rw [lenI, hb]; omega), req_t (by rw [lenI, hb]; omega), req_t (by omega), wrap_id (by omega)]
    rfl
  · simp only [r03_Words_s1, dec_t h1, if_true]
    rw [wrap_id (n := (4 : Int) * k) (by omega), wrap_id (n := (4 : Int) * k + 1) (by omega), wrap_id (n := (4 : Int) * k + 2) (by omega), wrap_id (n := (4 : Int) * k + 3) (by omega)]
    rw [req_t (by rw [lenI, hb]; omega), req_t (by rw [lenI, hb]; omega), req_t (by rw [lenI, hb]; omega), req_t (by rw [lenI, hb]; omega), req_t (by omega), wrap_id (by omega), ← word_eq]
    rfl
theorem words_two (s : Vector UInt32 64) : ∃ r, iter sha_state_mix_s2 (16, s) = some (64, r) ∧ iter r03_Words_s2 (16, s) = some (64, r) := by
  refine iter_two 64 (fun s => ⟨rfl, rfl⟩) 48 16 rfl (fun k s hk0 hk => ?_) s
  have h1 : (k : Int) < 64 := by omega
  apply Exists.intro; apply And.intro
  · simp only [sha_state_mix_s2, dec_t h1, if_true]
    rw [wrap_id (n := (k : Int) - 15) (by omega), wrap_id (n := (k : Int) - 2) (by omega), wrap_id (n := (k : Int) - 16) (by omega), wrap_id (n := (k : Int) - 7) (by omega)]
    obtain ⟨_, _, _, _, _, _, t7, t18, _, _⟩ := turn' (getV s ((k : Int) - 15))
    obtain ⟨_, _, _, _, _, _, _, _, t17, t19⟩ := turn' (getV s ((k : Int) - 2))
    rw [req_t (by omega), req_t (by omega), req_t (by omega), t7, some_bind, t18, some_bind, req_t (by omega), t17, some_bind, t19, some_bind, req_t (by omega), wrap_id (by omega)]
    rfl
  · simp only [r03_Words_s2, dec_t h1, if_true]
    rw [wrap_id (n := (k : Int) - 15) (by omega), wrap_id (n := (k : Int) - 2) (by omega), wrap_id (n := (k : Int) - 16) (by omega), wrap_id (n := (k : Int) - 7) (by omega)]
    obtain ⟨_, _, _, _, _, _, t7, t18, _, _⟩ := right' (getV s ((k : Int) - 15))
    obtain ⟨_, _, _, _, _, _, _, _, t17, t19⟩ := right' (getV s ((k : Int) - 2))
    rw [req_t (by omega), t7, some_bind, req_t (by omega), t18, some_bind, req_t (by omega), req_t (by omega), t17, some_bind, req_t (by omega), t19, some_bind, req_t (by omega), req_t (by omega), req_t (by omega), req_t (by omega), wrap_id (by omega)]
    rfl
theorem rounds (kk w : Vector UInt32 64) (s : Vector UInt32 8) : ∃ r, iter (sha_state_mix_s3 kk w) (0, s) = some (64, r) ∧ iter (r03_Sum_s2 kk w) (0, s) = some (64, r) := by
  refine iter_two 64 (fun s => ⟨rfl, rfl⟩) 64 0 rfl (fun k s hk0 hk => ?_) s
  have h1 : (k : Int) < 64 := by omega
  apply Exists.intro; apply And.intro
  · simp only [sha_state_mix_s3, dec_t h1, if_true]
    obtain ⟨t6, t11, t25, _⟩ := turn' (getV s 4)
    obtain ⟨_, _, _, t2, t13, t22, _⟩ := turn' (getV s 0)
    rw [t6, some_bind, t11, some_bind, t25, some_bind, req_t (by omega), req_t (by omega), t2, some_bind, t13, some_bind, t22, some_bind, wrap_id (by omega)]
    rfl
  · simp only [r03_Sum_s2, dec_t h1, if_true]
    obtain ⟨t6, t11, t25, _⟩ := right' (getV s 4)
    obtain ⟨_, _, _, t2, t13, t22, _⟩ := right' (getV s 0)
    rw [t6, some_bind, t11, some_bind, t25, some_bind, req_t (by omega), req_t (by omega), t2, some_bind, t13, some_bind, t22, some_bind, wrap_id (by omega)]
    simp only [UInt32.add_assoc, ch_eq, maj_eq]
    rfl
theorem sums (x : Vector UInt32 8) (s : Vector UInt32 8) : ∃ r, iter (sha_state_mix_s4 x) (0, s) = some (8, r) ∧ iter (r03_Sum_s3 x) (0, s) = some (8, r) := by
  refine iter_two 8 (fun s => ⟨rfl, rfl⟩) 8 0 rfl (fun k s hk0 hk => ?_) s
  have h1 : (k : Int) < 8 := by omega
  apply Exists.intro; apply And.intro
  · simp only [sha_state_mix_s4, dec_t h1, if_true]
    rw [req_t (by omega), req_t (by omega), req_t (by omega), wrap_id (by omega)]
    rfl
  · simp only [r03_Sum_s3, dec_t h1, if_true]
    rw [req_t (by omega), req_t (by omega), req_t (by omega), wrap_id (by omega)]
    rfl
theorem outs (x : Vector UInt32 8) (s : Lab) : ∃ r, iter (sha_Sum_s4 x) (0, s) = some (32, r) ∧ iter (r03_Sum_s4 x) (0, s) = some (32, r) := by
  refine iter_two 32 (fun s => ⟨by simp only [sha_Sum_s4]; rw [dec_f (by omega), if_neg (by simp)], by simp only [r03_Sum_s4]; rw [dec_f (by omega), if_neg (by simp)]⟩) 32 0 rfl (fun k s hk0 hk => ?_) s
  have h1 : (k : Int) < 32 := by omega
  have hd : Int.tdiv (k : Int) 4 = ((k / 4 : Nat) : Int) := by rw [Int.tdiv_eq_ediv_of_nonneg (by omega)]; omega
  have hm : Int.tmod (k : Int) 4 = ((k % 4 : Nat) : Int) := by rw [Int.tmod_eq_emod_of_nonneg (by omega)]; omega
  apply Exists.intro; apply And.intro
  · simp only [sha_Sum_s4, dec_t h1, if_true, hd, hm]
    rw [wrap_id (n := ((k / 4 : Nat) : Int)) (by omega), wrap_id (n := (8 : Int) * ((k % 4 : Nat) : Int)) (by omega), wrap_id (n := (24 : Int) - (8 : Int) * ((k % 4 : Nat) : Int)) (by omega)]
    rw [req_t (by omega), req_t (by omega), req_t (by omega), wrap_id (by omega)]
    rfl
  · simp only [r03_Sum_s4, dec_t h1, if_true, hd, hm]
    rw [Int.mul_comm ((k % 4 : Nat) : Int) 8]
    rw [wrap_id (n := ((k / 4 : Nat) : Int)) (by omega), wrap_id (n := (8 : Int) * ((k % 4 : Nat) : Int)) (by omega), wrap_id (n := (24 : Int) - (8 : Int) * ((k % 4 : Nat) : Int)) (by omega)]
    rw [req_t (by omega), req_t (by omega), req_t (by omega), wrap_id (by omega)]
    rfl
/-- A block is taken in: both ways. -/
theorem block_eq (v : Vector UInt32 8) (b : List UInt8) (hb : b.length = 64) (kk : Vector UInt32 64) : ∃ r w x, sha_state_mix v b kk = some r ∧ r03_Words b = some w ∧ iter (r03_Sum_s2 kk w) (0, v) = some (64, x) ∧ iter (r03_Sum_s3 x) (0, v) = some (8, r) := by
  obtain ⟨w1, a1, b1⟩ := words_one b hb (Vector.replicate 64 0)
  obtain ⟨w2, a2, b2⟩ := words_two w1
  obtain ⟨x, a3, b3⟩ := rounds kk w2 v
  obtain ⟨r, a4, b4⟩ := sums x v
  refine ⟨r, w2, x, ?_, ?_, b3, b4⟩
  · unfold sha_state_mix
    rw [a1, some_bind]; dsimp only
    rw [a2, some_bind]; dsimp only
    rw [a3, some_bind]; dsimp only
    rw [a4, some_bind]
  · unfold r03_Words
    rw [b1, some_bind]; dsimp only
    rw [b2, some_bind]

/-! ### the whole -/
theorem pad_some (l : List UInt8) (hl : l.length ≤ 100000000) : ∃ z, (l.length + z) % 64 = 56 ∧ z < 64 ∧ iter sha_Sum_s1 l = some (l ++ List.replicate z 0) := by
  have hz : ∃ z, (l.length + z) % 64 = 56 ∧ z < 64 := ⟨(120 - l.length % 64) % 64, by omega, by omega⟩
  obtain ⟨z, ⟨h1, h2⟩, h3⟩ := exists_least _ hz
  refine ⟨z, h1, h2, ?_⟩
  have := iter_to (step := sha_Sum_s1) (fun k => l ++ List.replicate k 0) z (b := l ++ List.replicate z 0) (fun k hk => ?_) ?_
  · simpa using this
  · have hne : (l.length + k) % 64 ≠ 56 := fun e => h3 k hk ⟨e, by omega⟩
    have hl2 : lenI (l ++ List.replicate k (0 : UInt8)) = ((l.length + k : Nat) : Int) := by simp [lenI]
    have : (Int.tmod (lenI (l ++ List.replicate k (0 : UInt8))) 64 != 56) = true := by
      rw [hl2, Int.tmod_eq_emod_of_nonneg (by omega)]; simp; omega
    simp only [sha_Sum_s1, this, if_true]
    rw [req_t (by simp [LIM]; omega), List.replicate_succ', List.append_assoc]
  · have hl2 : lenI (l ++ List.replicate z (0 : UInt8)) = ((l.length + z : Nat) : Int) := by simp [lenI]
    have : (Int.tmod (lenI (l ++ List.replicate z (0 : UInt8))) 64 != 56) = false := by
      rw [hl2, Int.tmod_eq_emod_of_nonneg (by omega)]; simp; omega
    simp only [sha_Sum_s1, this, Bool.false_eq_true, if_false]
def tail8 (n : UInt64) (k : Nat) : List UInt8 := (List.range k).map fun i => (hr_u64 n ((56 - 8 * i : Nat) : Int)).toUInt8
theorem tail8_succ (n : UInt64) (k : Nat) : tail8 n (k + 1) = tail8 n k ++ [(hr_u64 n ((56 - 8 * k : Nat) : Int)).toUInt8] := by
  unfold tail8; rw [List.range_succ, List.map_append]; rfl
theorem tail_one (a l : Str) (hl : l.length ≤ 200000000) : iter (sha_Sum_s2 a) (56, l) = some (-8, l ++ tail8 (8 * u64I (lenI a)) 8) := by
  have := iter_to (step := sha_Sum_s2 a) (fun k => ((56 : Int) - 8 * (k : Int), l ++ tail8 (8 * u64I (lenI a)) k)) 8 (b := (-8, l ++ tail8 (8 * u64I (lenI a)) 8)) (fun k hk => ?_) ?_
  · rw [show l ++ tail8 (8 * u64I (lenI a)) 0 = l by simp [tail8]] at this
    exact this
  · have h1 : (0 : Int) ≤ 56 - 8 * (k : Int) := by omega
    simp only [sha_Sum_s2, dec_t h1, if_true]
    rw [req_t h1, req_t (by simp [tail8, LIM]; omega), wrap_id (by omega), tail8_succ, List.append_assoc]
    rw [show (56 : Int) - 8 * (k : Int) = ((56 - 8 * k : Nat) : Int) by omega]
    congr 3
    omega
  · rfl
theorem tail_two (a l : Str) (hl : l.length ≤ 200000000) : iter (r03_Padded_s2 a) (0, l) = some (8, l ++ tail8 (8 * u64I (lenI a)) 8) := by
  have := iter_to (step := r03_Padded_s2 a) (fun k => ((k : Int), l ++ tail8 (8 * u64I (lenI a)) k)) 8 (b := (8, l ++ tail8 (8 * u64I (lenI a)) 8)) (fun k hk => ?_) ?_
  · rw [show l ++ tail8 (8 * u64I (lenI a)) 0 = l by simp [tail8]] at this
    exact this
  · have h1 : (k : Int) < 8 := by omega
    simp only [r03_Padded_s2, dec_t h1, if_true]
    rw [wrap_id (n := (8 : Int) * k) (by omega), wrap_id (n := (56 : Int) - 8 * k) (by omega), req_t (by omega), req_t (by simp [tail8, LIM]; omega), wrap_id (by omega), tail8_succ, List.append_assoc, UInt64.mul_comm]
    rw [show (56 : Int) - 8 * (k : Int) = ((56 - 8 * k : Nat) : Int) by omega]
    rfl
  · rfl
theorem blocks_eq (kk : Vector UInt32 64) (p : List UInt8) (hp : p.length ≤ 300000000) : ∀ (m at_ : Nat) (v : Vector UInt32 8), p.length = at_ + 64 * m →
    ∃ v', iter (sha_Sum_s3 kk) (p.drop at_, v) = some ([], v') ∧ iter (r03_Sum_s1 kk p) ((at_ : Int), v) = some ((p.length : Int), v')
  | 0, at_, v, h => by
    refine ⟨v, ?_, ?_⟩
    · rw [List.drop_eq_nil_of_le (by omega)]
      exact iter_end rfl
    · have : at_ = p.length := by omega
      subst this
      refine iter_end ?_
      simp only [r03_Sum_s1]
      rw [dec_f (by rw [lenI]; omega), if_neg (by simp)]
  | m + 1, at_, v, h => by
    have hb : ((p.drop at_).take 64).length = 64 := by simp; omega
    obtain ⟨r, w, x, e1, e2, e3, e4⟩ := block_eq v _ hb kk
    obtain ⟨v', i1, i2⟩ := blocks_eq kk p hp m (at_ + 64) r (by omega)
    have hlen : lenI (p.drop at_) = ((p.length - at_ : Nat) : Int) := by simp [lenI]
    refine ⟨v', iter_next ?_ i1, iter_next ?_ i2⟩
    · simp only [sha_Sum_s3]
      rw [dec_t (by rw [hlen]; omega), if_pos rfl, req_t (by rw [hlen]; omega)]
      have c1 : cutL (p.drop at_) 0 64 = (p.drop at_).take 64 := cutL_to _ 64
      have c2 : cutL (p.drop at_) 64 (lenI (p.drop at_)) = (p.drop at_).drop 64 := cutL_from _ 64
      rw [c1, e1, some_bind, req_t (by rw [hlen]; omega), c2, List.drop_drop]
    · simp only [r03_Sum_s1]
      have hl2 : lenI p = (p.length : Int) := rfl
      rw [dec_t (by rw [hl2]; omega), if_pos rfl, wrap_id (by omega), req_t (by rw [hl2]; omega)]
      have c1 : cutL p (at_ : Int) ((at_ : Int) + 64) = (p.drop at_).take 64 := by simp [cutL]; congr 1; omega
      rw [c1, e2, some_bind, e3, some_bind]
      dsimp only
      rw [e4, some_bind]
      rfl
theorem steps_same : r03_Steps_k0 = sha_steps_k0 := rfl
theorem sums_same (s : Str) (hs : s.length ≤ 10000000) : ∃ r, sha_Sum s = some r ∧ r03_Sum s = some r := by
  obtain ⟨z, h1, h2, h3⟩ := pad_some (s ++ [128]) (by simp; omega)
  have hlen : (s ++ [(128 : UInt8)] ++ List.replicate z 0).length = s.length + 1 + z := by simp; omega
  have t1 := tail_one s (s ++ [128] ++ List.replicate z 0) (by omega)
  have t2 := tail_two s (s ++ [128] ++ List.replicate z 0) (by omega)
  have hmod : (s ++ [(128 : UInt8)] ++ List.replicate z 0 ++ tail8 (8 * u64I (lenI s)) 8).length % 64 = 0 := by
    rw [List.length_append, hlen]
    have : (tail8 (8 * u64I (lenI s)) 8).length = 8 := by simp [tail8]
    simp at h1; omega
  have hpl : (s ++ [(128 : UInt8)] ++ List.replicate z 0 ++ tail8 (8 * u64I (lenI s)) 8).length ≤ 300000000 := by
    rw [List.length_append, hlen]
    have : (tail8 (8 * u64I (lenI s)) 8).length = 8 := by simp [tail8]
    omega
  generalize hp : s ++ [(128 : UInt8)] ++ List.replicate z 0 ++ tail8 (8 * u64I (lenI s)) 8 = p at *
  obtain ⟨v', i1, i2⟩ := blocks_eq sha_steps_k0 p hpl (p.length / 64) 0 #v[1779033703, 3144134277, 1013904242, 2773480762, 1359893119, 2600822924, 528734635, 1541459225] (by omega)
  obtain ⟨r, o1, o2⟩ := outs v' zL
  rw [List.drop_zero] at i1
  refine ⟨r, ?_, ?_⟩
  · unfold sha_Sum sha_steps
    rw [req_t (by simp [LIM]; omega), h3, some_bind]
    dsimp only
    rw [t1, some_bind]
    dsimp only
    rw [some_bind, i1, some_bind]
    dsimp only
    rw [o1, some_bind]
  · unfold r03_Sum r03_Begin r03_Steps r03_Padded
    rw [some_bind, some_bind, req_t (by simp [LIM]; omega), show r03_Padded_s1 = sha_Sum_s1 from rfl, h3, some_bind]
    dsimp only
    rw [t2, some_bind, some_bind, steps_same]
    rw [show ((0 : Int)) = ((0 : Nat) : Int) from rfl, i2, some_bind]
    dsimp only
    rw [show (((0 : Nat)) : Int) = 0 from rfl, o2, some_bind]
/-- The sum of a text. -/
def H (s : Str) : Lab := (sha_Sum s).getD zL
theorem sha_Sum_eq (s : Str) (hs : s.length ≤ 10000000) : sha_Sum s = some (H s) := by
  obtain ⟨r, h, _⟩ := sums_same s hs; unfold H; rw [h]; rfl
theorem r03_Sum_eq (s : Str) (hs : s.length ≤ 10000000) : r03_Sum s = some (H s) := by
  obtain ⟨r, h, h2⟩ := sums_same s hs; unfold H; rw [h, h2]; rfl
end
end Go.Ch
end
section
/- The bytes that are summed. -/
set_option linter.unusedVariables false
set_option linter.unusedSimpArgs false
namespace Go.Ch
open Go.RowKit (wrap64)
noncomputable section

/-- A number as eight bytes. -/
def eight (n : Int) : Str := tail8 (u64I n) 8
theorem eight_len (n : Int) : (eight n).length = 8 := by simp [eight, tail8]
theorem tail8_len (n : UInt64) (k : Nat) : (tail8 n k).length = k := by simp [tail8]
theorem node_number_eq (n : Int) : node_number n = some (eight n) := by
  unfold node_number
  rw [req_t (by simp [LIM])]
  have h8 : lenI (List.replicate (Int.toNat (8 : Int)) (default : UInt8)) = 8 := by simp [lenI]
  have := iter_to (step := node_number_s1 n) (fun k => ((k : Int), tail8 (u64I n) k ++ List.replicate (8 - k) (0 : UInt8))) 8 (b := (8, eight n)) (fun k hk => ?_) ?_
  · have e : ((0 : Nat) : Int) = 0 := rfl
    rw [e] at this
    have e2 : tail8 (u64I n) 0 ++ List.replicate (8 - 0) (0 : UInt8) = List.replicate (Int.toNat (8 : Int)) (default : UInt8) := rfl
    rw [e2] at this
    rw [this, some_bind]
  · have h1 : (k : Int) < 8 := by omega
    simp only [node_number_s1, h8, dec_t h1, if_true]
    have hl : lenI (tail8 (u64I n) k ++ List.replicate (8 - k) (0 : UInt8)) = 8 := by simp [lenI, tail8_len]; omega
    rw [wrap_id (n := (8 : Int) * k) (by omega), wrap_id (n := (56 : Int) - 8 * k) (by omega), req_t (by omega), req_t (by omega), wrap_id (by omega), tail8_succ]
    rw [show (56 : Int) - 8 * (k : Int) = ((56 - 8 * k : Nat) : Int) by omega]
    rw [show 8 - k = (8 - (k + 1)) + 1 by omega, List.replicate_succ, Int.toNat_natCast]
    rw [List.set_append_right _ _ (by rw [tail8_len]; omega), tail8_len, Nat.sub_self, List.set_cons_zero, List.append_assoc]
    rfl
  · simp only [node_number_s1, h8]
    rw [dec_f (by omega), if_neg (by simp)]
    simp [eight]
theorem hr_u64_byte (x : UInt64) (k : Nat) (h : k < 8) : (hr_u64 x ((8 * k : Nat) : Int)).toUInt8 = (UInt64.ofNat (x.toNat / 256 ^ k) % 256).toUInt8 := by
  unfold hr_u64
  have hx := x.toNat_lt
  have e : min (((8 * k : Nat) : Int)).toNat 64 = 8 * k := by omega
  rw [e]
  have e2 : 2 ^ (8 * k) = 256 ^ k := by rw [Nat.pow_mul]
  rw [e2]
  apply UInt8.toNat_inj.1
  rw [UInt64.toNat_toUInt8, UInt64.toNat_toUInt8, UInt64.toNat_mod]
  rw [show (256 : UInt64).toNat = 256 from rfl]
  omega
theorem r15_Eight_eq (n : Int) : r15_Eight n = some (eight n) := by
  unfold r15_Eight
  have hx := (u64I n).toNat_lt
  have := iter_to (step := r15_Eight_s1) (fun k => ((k : Int), UInt64.ofNat ((u64I n).toNat / 256 ^ k), (eight n).drop (8 - k))) 8 (b := (8, UInt64.ofNat ((u64I n).toNat / 256 ^ 8), eight n)) (fun k hk => ?_) ?_
  · have e : ((0 : Nat) : Int) = 0 := rfl
    rw [e] at this
    have e2 : UInt64.ofNat ((u64I n).toNat / 256 ^ 0) = u64I n := by simp
    have e3 : (eight n).drop (8 - 0) = [] := List.drop_eq_nil_of_le (by rw [eight_len]; omega)
    rw [e2, e3] at this
    rw [this, some_bind]
  · have h1 : (k : Int) < 8 := by omega
    simp only [r15_Eight_s1, dec_t h1, if_true]
    rw [req_t (by simp [LIM, eight_len]; omega), wrap_id (by omega)]
    have e1 : UInt64.ofNat ((u64I n).toNat / 256 ^ k) / 256 = UInt64.ofNat ((u64I n).toNat / 256 ^ (k + 1)) := by
      apply UInt64.toNat_inj.1
      have h2 : (u64I n).toNat / 256 ^ k < 2 ^ 64 := Nat.lt_of_le_of_lt (Nat.div_le_self _ _) hx
      have h3 : (u64I n).toNat / 256 ^ (k + 1) < 2 ^ 64 := Nat.lt_of_le_of_lt (Nat.div_le_self _ _) hx
      rw [UInt64.toNat_div, UInt64.toNat_ofNat_of_lt' h2, UInt64.toNat_ofNat_of_lt' h3, show (256 : UInt64).toNat = 256 from rfl, Nat.div_div_eq_div_mul, ← Nat.pow_succ]
    have e2 : [(UInt64.ofNat ((u64I n).toNat / 256 ^ k) % 256).toUInt8] ++ (eight n).drop (8 - k) = (eight n).drop (8 - (k + 1)) := by
      have hlt : 8 - (k + 1) < (eight n).length := by rw [eight_len]; omega
      rw [List.drop_eq_getElem_cons hlt, show 8 - (k + 1) + 1 = 8 - k by omega]
      have : (eight n)[8 - (k + 1)] = (hr_u64 (u64I n) ((8 * k : Nat) : Int)).toUInt8 := by
        simp only [eight, tail8, List.getElem_map, List.getElem_range]
        congr 3; omega
      rw [this, hr_u64_byte _ _ hk]
      rfl
    rw [e1, e2]
    rfl
  · simp only [r15_Eight_s1]
    rw [dec_f (by omega), if_neg (by simp)]
    simp

/-! ### texts behind their lengths -/
def len4 (t : Str) : Str := [u8I (shrInt (lenI t) 24), u8I (shrInt (lenI t) 16), u8I (shrInt (lenI t) 8), u8I (lenI t)]
def joinS (tag : UInt8) (ts : List Str) : Str := tag :: (ts.map fun t => len4 t ++ t).flatten
theorem joinS_snoc (tag : UInt8) (ts : List Str) (t : Str) : joinS tag (ts ++ [t]) = joinS tag ts ++ (len4 t ++ t) := by simp [joinS]
theorem joinS_mid (tag : UInt8) (ts : List Str) (t : Str) (r : List Str) : (joinS tag ts).length + (4 + t.length) ≤ (joinS tag (ts ++ t :: r)).length := by
  simp [joinS, len4]; omega
theorem node_joined_eq (tag : UInt8) (ts : List Str) (h : (joinS tag ts).length ≤ 10000000) (hl : ts.length ≤ 1000000) : node_joined tag ts = some (joinS tag ts) := by
  unfold node_joined
  have := iter_fold (step := node_joined_s1 ts) (fun k s => ((k : Int), s)) ts (joinS tag) (b := ((ts.length : Int), joinS tag ts)) (fun pre x r e => ?_) ?_
  · rw [show ([tag] : List UInt8) = joinS tag [] from rfl, show ((0 : Int)) = ((0 : Nat) : Int) from rfl, this, some_bind]
  · have hm := joinS_mid tag pre x r
    rw [← e] at hm
    have h1 : (pre.length : Int) < lenI ts := by simp [e, lenI]; omega
    have h2 : pre.length < ts.length := by simp [e]
    have hx : getI ts (pre.length : Int) = x := by rw [e, getI_mid]
    simp only [node_joined_s1, dec_t h1, if_true, hx]
    rw [req_t (by omega), req_t (by simp [LIM]; omega), req_t (by simp [LIM]; omega), wrap_id (by omega), joinS_snoc, List.append_assoc]
    rfl
  · simp only [node_joined_s1]
    rw [dec_f (by simp [lenI]), if_neg (by simp)]
theorem r03_Bytes_eq (tag : UInt8) (ts : List Str) (h : (joinS tag ts).length ≤ 10000000) (hl : ts.length ≤ 1000000) : r03_Bytes tag ts = some (joinS tag ts) := by
  unfold r03_Bytes
  have := iter_fold (step := r03_Bytes_s1 ts) (fun k s => ((k : Int), s)) ts (joinS tag) (b := ((ts.length : Int), joinS tag ts)) (fun pre x r e => ?_) ?_
  · rw [show ([tag] : List UInt8) = joinS tag [] from rfl, show ((0 : Int)) = ((0 : Nat) : Int) from rfl, this, some_bind]
  · have hm := joinS_mid tag pre x r
    rw [← e] at hm
    have h1 : (pre.length : Int) < lenI ts := by simp [e, lenI]; omega
    have h2 : pre.length < ts.length := by simp [e]
    have hx : getI ts (pre.length : Int) = x := by rw [e, getI_mid]
    simp only [r03_Bytes_s1, dec_t h1, if_true, hx]
    rw [req_t (by omega), req_t (by simp [LIM]; omega), req_t (by simp [LIM]; omega), wrap_id (by omega), joinS_snoc]
    rfl
  · simp only [r03_Bytes_s1]
    rw [dec_f (by simp [lenI]), if_neg (by simp)]
theorem shrInt_zero (n : Nat) (h : n < 9223372036854775808) : shrInt (n : Int) 0 = (n : Int) := by
  unfold shrInt shrI
  simp
theorem sha_Joined_eq (tag : UInt8) (ts : List Str) (h : (joinS tag ts).length ≤ 10000000) (hl : ts.length ≤ 1000000) : sha_Joined tag ts = some (H (joinS tag ts)) := by
  unfold sha_Joined
  have := iter_fold (step := sha_Joined_s1 ts) (fun k s => ((k : Int), s)) ts (joinS tag) (b := ((ts.length : Int), joinS tag ts)) (fun pre x r e => ?_) ?_
  · rw [show ([tag] : List UInt8) = joinS tag [] from rfl, show ((0 : Int)) = ((0 : Nat) : Int) from rfl, this, some_bind]
    dsimp only
    rw [sha_Sum_eq _ h, some_bind]
  · have hm := joinS_mid tag pre x r
    rw [← e] at hm
    have h1 : (pre.length : Int) < lenI ts := by simp [e, lenI]; omega
    have h2 : pre.length < ts.length := by simp [e]
    have hx : getI ts (pre.length : Int) = x := by rw [e, getI_mid]
    have step : ∀ (i : Int) (s : List UInt8), 0 ≤ i → i ≤ 24 → s.length ≤ 10000000 → sha_Joined_s2 ts (pre.length : Int) (i, s) = some (.inl (i - 8, s ++ [u8I (shrInt (lenI x) i)])) := fun i s h0 h24 hs => by
      simp only [sha_Joined_s2, dec_t h0, if_true, hx]
      rw [req_t h0, req_t (by simp [LIM]; omega), wrap_id (by omega)]
    have inner : iter (sha_Joined_s2 ts (pre.length : Int)) (24, joinS tag pre) = some (-8, joinS tag pre ++ len4 x) := by
      refine iter_next (step 24 _ (by omega) (by omega) (by omega)) ?_
      refine iter_next (step 16 _ (by omega) (by omega) (by simp; omega)) ?_
      refine iter_next (step 8 _ (by omega) (by omega) (by simp; omega)) ?_
      refine iter_next (step 0 _ (by omega) (by omega) (by simp; omega)) ?_
      refine iter_end ?_
      simp only [sha_Joined_s2]
      rw [dec_f (by omega), if_neg (by simp)]
      have e0 : shrInt (lenI x) 0 = lenI x := shrInt_zero _ (by omega)
      rw [e0]
      simp [len4]
    simp only [sha_Joined_s1, dec_t h1, if_true, hx]
    rw [req_t (by omega), inner, some_bind]
    dsimp only
    rw [req_t (by simp [LIM, len4]; omega), wrap_id (by omega), joinS_snoc, List.append_assoc]
    rfl
  · simp only [sha_Joined_s1]
    rw [dec_f (by simp [lenI]), if_neg (by simp)]

/-! ### of leaves, of items -/
def itemText (x : Item) : Str := eight x.len ++ x.bits.toList ++ x.sum.toList ++ eight x.at_
theorem itemText_len (x : Item) : (itemText x).length = 80 := by simp [itemText, eight_len]
theorem node_text_eq (x : Item) : node_text x = some (itemText x) := by
  unfold node_text
  rw [node_number_eq, some_bind, req_t (by simp [eight_len, LIM]), req_t (by simp [eight_len, LIM]), node_number_eq, some_bind, req_t (by simp [eight_len, LIM])]
  rfl
theorem r15_Text_eq (x : Item) : r15_Text x = some (itemText x) := by
  unfold r15_Text
  rw [r15_Eight_eq, some_bind, req_t (by simp [eight_len, LIM]), req_t (by simp [eight_len, LIM]), r15_Eight_eq, some_bind, req_t (by simp [eight_len, LIM])]
  rfl
def innerBytes (a b : Item) : Str := joinS 17 [itemText a, itemText b]
def leafBytes (l : Leaf) : Str := joinS 16 [l.label.toList, l.value.toList, eight l.at_]
theorem innerBytes_len (a b : Item) : (innerBytes a b).length = 169 := by simp [innerBytes, joinS, itemText_len, len4]
theorem leafBytes_len (l : Leaf) : (leafBytes l).length = 85 := by simp [leafBytes, joinS, eight_len, len4]
theorem node_InnerBytes_eq (x : Inner) : node_InnerBytes x = some (innerBytes x.l x.r) := by
  unfold node_InnerBytes
  rw [node_text_eq, some_bind, node_text_eq, some_bind, node_joined_eq _ _ (by have := innerBytes_len x.l x.r; unfold innerBytes at this; omega) (by simp), some_bind]
  rfl
theorem r15_InnerBytes_eq (a b : Item) : r15_InnerBytes a b = some (innerBytes a b) := by
  unfold r15_InnerBytes
  rw [r15_Text_eq, some_bind, r15_Text_eq, some_bind, r03_Bytes_eq _ _ (by have := innerBytes_len a b; unfold innerBytes at this; omega) (by simp), some_bind]
  rfl
theorem node_LeafBytes_eq (l : Leaf) : node_LeafBytes l = some (leafBytes l) := by
  unfold node_LeafBytes
  rw [node_number_eq, some_bind, node_joined_eq _ _ (by have := leafBytes_len l; unfold leafBytes at this; omega) (by simp), some_bind]
  rfl
theorem r15_LeafBytes_eq (l : Leaf) : r15_LeafBytes l = some (leafBytes l) := by
  unfold r15_LeafBytes
  rw [r15_Eight_eq, some_bind, r03_Bytes_eq _ _ (by have := leafBytes_len l; unfold leafBytes at this; omega) (by simp), some_bind]
  rfl
/-- The item of two. -/
def innerItem (a b : Item) : Item := ⟨(com a.bits b.bits : Int), cut a.bits (com a.bits b.bits), H (innerBytes a b), max a.at_ b.at_⟩
def leafItem (l : Leaf) : Item := ⟨256, l.label, H (leafBytes l), l.at_⟩
theorem clampN_nat {n : Nat} (h : n ≤ 256) : clampN (n : Int) = n := by unfold clampN; omega
theorem node_Inner_Item_eq (x : Inner) : node_Inner_Item x = some (innerItem x.l x.r) := by
  unfold node_Inner_Item
  rw [bits_Common_eq, some_bind, bits_Cut_eq, some_bind, node_InnerBytes_eq, some_bind, sha_Sum_eq _ (by rw [innerBytes_len]; omega), some_bind, clampN_nat (com_le _ _)]
  rfl
theorem node_Leaf_Item_eq (l : Leaf) : node_Leaf_Item l = some (leafItem l) := by
  unfold node_Leaf_Item
  rw [bits_Cut_eq, some_bind, node_LeafBytes_eq, some_bind, sha_Sum_eq _ (by rw [leafBytes_len]; omega), some_bind]
  rw [show clampN 256 = 256 from rfl, cut_full]
  rfl
theorem r16_Inner_eq (a b : Item) : r16_Inner a b = some (innerItem a b) := by
  unfold r16_Inner
  rw [r01_Common_eq, some_bind, r01_Cut_eq, some_bind, r15_InnerBytes_eq, some_bind, r03_Sum_eq _ (by rw [innerBytes_len]; omega), some_bind, clampN_nat (com_le _ _)]
  rfl
theorem r16_Leaf_eq (l : Leaf) : r16_Leaf l = some (leafItem l) := by
  unfold r16_Leaf
  rw [r15_LeafBytes_eq, some_bind, r03_Sum_eq _ (by rw [leafBytes_len]; omega), some_bind]
  rfl
def emptyS : Lab := H [18]
theorem node_Empty_eq : node_Empty = some emptyS := by
  unfold node_Empty
  rw [sha_Joined_eq _ _ (by simp [joinS]) (by simp), some_bind]
  rfl

/-! ### are they in form? -/
def itGood (x : Item) : Bool := goodB x.len x.bits && decide (0 ≤ x.at_ ∧ x.at_ ≤ 1073741824)
theorem node_Good_eq (x : Item) : node_Good x = some (itGood x) := by
  unfold node_Good itGood
  rw [bits_Good_eq, some_bind]
  cases goodB x.len x.bits <;> by_cases h1 : 0 ≤ x.at_ <;> simp [h1]
theorem r15_Good_eq (x : Item) : r15_Good x = some (itGood x) := by
  unfold r15_Good itGood
  rw [r01_Good_eq, some_bind]
  cases goodB x.len x.bits <;> by_cases h1 : 0 ≤ x.at_ <;> simp [h1]
/-- The error of two items. -/
def pairErr (a b : Item) : Int :=
  if (!itGood a || !itGood b) = true then 1
  else if (decide (a.len ≤ (com a.bits b.bits : Int)) || decide (b.len ≤ (com a.bits b.bits : Int)) || !lt a.bits b.bits) = true then 3 else 0
def leafErr (l : Leaf) : Int := if l.at_ < 0 ∨ 1073741824 < l.at_ then 1 else 0
theorem node_Check_leaf (l : Leaf) : node_Check (.leaf l) = some (leafErr l) := by
  unfold node_Check leafErr
  by_cases h1 : l.at_ < 0 <;> by_cases h2 : 1073741824 < l.at_ <;> simp [h1, h2]
theorem ne_of_com {n : Int} {a b : Item} (hg : itGood a = true) (h : ¬ a.len ≤ (com a.bits b.bits : Int)) : a.bits ≠ b.bits := by
  intro e
  rw [e, com_self] at h
  unfold itGood at hg
  simp only [Bool.and_eq_true] at hg
  have := (good_iff.1 hg.1).2.1
  omega
theorem node_Check_inner (x : Inner) : node_Check (.inner x) = some (pairErr x.l x.r) := by
  unfold node_Check pairErr
  simp only [node_Good_eq, some_bind, bits_Common_eq, bits_Order_eq]
  cases hg : itGood x.l with
  | false => simp
  | true =>
    cases hg2 : itGood x.r with
    | false => simp
    | true =>
      by_cases h1 : x.l.len ≤ (com x.l.bits x.r.bits : Int)
      · simp [h1]
      · by_cases h2 : x.r.len ≤ (com x.l.bits x.r.bits : Int)
        · simp [h1, h2]
        · have hne := ne_of_com (n := 0) hg h1
          have hp := ord_pos x.l.bits x.r.bits
          cases hl : lt x.l.bits x.r.bits with
          | true =>
            rw [lt_asymm hl] at hp
            simp [h1, h2]; simpa using hp
          | false =>
            have := (lt_or hne).resolve_left (by simp [hl])
            have := hp.2 this
            simp [h1, h2, this]
theorem r15_Check_eq (a b : Item) : r15_Check a b = some (pairErr a b) := by
  unfold r15_Check pairErr
  simp only [r15_Good_eq, some_bind, r01_Common_eq, r01_Order_eq]
  cases hg : itGood a with
  | false => simp
  | true =>
    cases hg2 : itGood b with
    | false => simp
    | true =>
      by_cases h1 : a.len ≤ (com a.bits b.bits : Int)
      · simp [h1]
      · by_cases h2 : b.len ≤ (com a.bits b.bits : Int)
        · simp [h1, h2]
        · have hp := ord_m1 a.bits b.bits
          cases hl : lt a.bits b.bits with
          | true => simp [h1, h2, hp.2 hl]
          | false =>
            have : ¬ ord a.bits b.bits = -1 := fun e => by rw [hp.1 e] at hl; cases hl
            simp [h1, h2, this]
end
end Go.Ch
end
section
/- Plain laws: sorting by a label, stably. -/
set_option linter.unusedVariables false
set_option linter.unusedSimpArgs false
namespace Go.Ch

theorem snoc_ind {α : Type} {p : List α → Prop} (nil : p []) (snoc : ∀ l x, p l → p (l ++ [x])) (l : List α) : p l := by
  have h : ∀ r : List α, p r.reverse := fun r => by
    induction r with
    | nil => exact nil
    | cons x r ih => rw [List.reverse_cons]; exact snoc _ _ ih
  have := h l.reverse
  rwa [List.reverse_reverse] at this

section
variable {α β : Type} (key : α → Lab)

/-- x goes ahead of the first one that is greater. -/
def insL (x : α) : List α → List α
  | [] => [x]
  | y :: l => if lt (key x) (key y) = true then x :: y :: l else y :: insL x l
/-- The same from the other end, over the reversed list. -/
def insR (x : α) : List α → List α
  | [] => [x]
  | y :: l => if lt (key x) (key y) = true then y :: insR x l else x :: y :: l
def sortS (l : List α) : List α := l.foldl (fun acc x => insL key x acc) []
/-- Not falling. -/
def Up (l : List α) : Prop := l.Pairwise fun a b => lt (key b) (key a) = false

theorem insL_split (x : α) : ∀ (A B : List α), (∀ a ∈ A, lt (key x) (key a) = false) → (∀ b ∈ B, lt (key x) (key b) = true) → insL key x (A ++ B) = A ++ x :: B
  | [], [], _, _ => rfl
  | [], b :: B, _, hB => by simp [insL, hB b (by simp)]
  | a :: A, B, hA, hB => by
    simp only [List.cons_append, insL, hA a (by simp), Bool.false_eq_true, if_false]
    rw [insL_split x A B (fun a h => hA a (by simp [h])) hB]
theorem insR_split (x : α) : ∀ (B A : List α), (∀ a ∈ A, lt (key x) (key a) = false) → (∀ b ∈ B, lt (key x) (key b) = true) → insR key x (B ++ A) = B ++ x :: A
  | [], [], _, _ => rfl
  | [], a :: A, hA, _ => by simp [insR, hA a (by simp)]
  | b :: B, A, hA, hB => by
    simp only [List.cons_append, insR, hB b (by simp), if_true]
    rw [insR_split x B A hA (fun b h => hB b (by simp [h]))]
theorem lt_mono {x a b : Lab} (h : lt b a = false) (hx : lt x a = true) : lt x b = true := by
  by_cases e : a = b
  · rw [← e]; exact hx
  · exact lt_trans hx ((lt_or e).resolve_right (by simp [h]))
theorem up_split (x : α) (l : List α) (h : Up key l) : ∃ A B, l = A ++ B ∧ (∀ a ∈ A, lt (key x) (key a) = false) ∧ (∀ b ∈ B, lt (key x) (key b) = true) := by
  induction l with
  | nil => exact ⟨[], [], rfl, by simp, by simp⟩
  | cons y l ih =>
    obtain ⟨h1, h2⟩ := List.pairwise_cons.1 h
    cases hy : lt (key x) (key y) with
    | true =>
      refine ⟨[], y :: l, rfl, by simp, fun b hb => ?_⟩
      rcases List.mem_cons.1 hb with rfl | hb
      · exact hy
      · exact lt_mono (h1 b hb) hy
    | false =>
      obtain ⟨A, B, rfl, hA, hB⟩ := ih h2
      refine ⟨y :: A, B, rfl, fun a ha => ?_, hB⟩
      rcases List.mem_cons.1 ha with rfl | ha
      · exact hy
      · exact hA a ha
theorem insR_insL (x : α) (l : List α) (h : Up key l) : (insR key x l.reverse).reverse = insL key x l := by
  obtain ⟨A, B, rfl, hA, hB⟩ := up_split key x l h
  rw [List.reverse_append, insR_split key x _ _ (by simpa using hA) (by simpa using hB), insL_split key x A B hA hB]
  simp
theorem insL_up (x : α) (l : List α) (h : Up key l) : Up key (insL key x l) := by
  obtain ⟨A, B, rfl, hA, hB⟩ := up_split key x l h
  rw [insL_split key x A B hA hB]
  unfold Up at *
  rw [List.pairwise_append] at h ⊢
  obtain ⟨h1, h2, h3⟩ := h
  refine ⟨h1, List.pairwise_cons.2 ⟨fun b hb => lt_asymm (hB b hb), h2⟩, fun a ha b hb => ?_⟩
  rcases List.mem_cons.1 hb with rfl | hb
  · exact hA a ha
  · exact h3 a ha b hb
theorem insL_perm (x : α) : ∀ l : List α, (insL key x l).Perm (x :: l)
  | [] => .refl _
  | y :: l => by
    unfold insL
    split
    · exact .refl _
    · exact ((insL_perm x l).cons y).trans (.swap _ _ _)
theorem insL_length (x : α) (l : List α) : (insL key x l).length = l.length + 1 := by simpa using (insL_perm key x l).length_eq
theorem sort_snoc (l : List α) (x : α) : sortS key (l ++ [x]) = insL key x (sortS key l) := by simp [sortS]
theorem sort_up (l : List α) : Up key (sortS key l) := by
  induction l using snoc_ind with
  | nil => exact .nil
  | snoc l x ih => rw [sort_snoc]; exact insL_up key x _ ih
theorem sort_perm (l : List α) : (sortS key l).Perm l := by
  induction l using snoc_ind with
  | nil => exact .refl _
  | snoc l x ih =>
    rw [sort_snoc]
    exact (insL_perm key x _).trans ((ih.cons x).trans (List.perm_append_singleton x l).symm)
theorem sort_length (l : List α) : (sortS key l).length = l.length := (sort_perm key l).length_eq
theorem sort_mem (l : List α) (x : α) : x ∈ sortS key l ↔ x ∈ l := (sort_perm key l).mem_iff
/-- What doesn't fall stays. -/
theorem sort_id (l : List α) (h : Up key l) : sortS key l = l := by
  induction l using snoc_ind with
  | nil => rfl
  | snoc l x ih =>
    unfold Up at h
    rw [List.pairwise_append] at h
    rw [sort_snoc, ih h.1]
    have := insL_split key x l [] (fun a ha => h.2.2 a ha x (by simp)) (by simp)
    simpa using this
theorem insL_map (f : β → α) (x : β) : ∀ l : List β, (insL (fun b => key (f b)) x l).map f = insL key (f x) (l.map f)
  | [] => rfl
  | y :: l => by
    unfold insL
    by_cases h : lt (key (f x)) (key (f y)) = true
    · simp [h]
    · simp [h, insL_map f x l]
theorem sort_map (f : β → α) (l : List β) : (sortS (fun b => key (f b)) l).map f = sortS key (l.map f) := by
  induction l using snoc_ind with
  | nil => rfl
  | snoc l x ih => rw [sort_snoc, insL_map, ih, List.map_append, List.map_singleton, sort_snoc]
end
end Go.Ch
end
section
/- Sorting, as the library does it: short lists. -/
set_option linter.unusedVariables false
set_option linter.unusedSimpArgs false
namespace Go.Ch
open Go.RowKit (wrap64)
noncomputable section
section
variable {α : Type} [Inhabited α] (key : α → Lab) (cmp : α → α → Option Int) (hc : ∀ x y, cmp x y = some (ord (key x) (key y)))

def gIns2 (a1 : Int) (a3 : (α → α → Option Int)) : (Int × (List α)) → Option ((Int × (List α)) ⊕ (Int × (List α)))
 | (x16, x17) => ((if (decide (a1 < x16)) = true then ((req ((0 : Int) ≤ x16 ∧ x16 < lenI x17)).bind fun _ => ((req ((0 : Int) ≤ (wrap64 (x16 - (1 : Int))) ∧ (wrap64 (x16 - (1 : Int))) < lenI x17)).bind fun _ => ((a3 (getI x17 x16) (getI x17 (wrap64 (x16 - (1 : Int))))).bind fun t34 => some (decide (t34 < (0 : Int)))))) else some false).bind fun b24 => (if b24 = true then ((req ((0 : Int) ≤ (wrap64 (x16 - (1 : Int))) ∧ (wrap64 (x16 - (1 : Int))) < lenI x17)).bind fun _ => ((req ((0 : Int) ≤ x16 ∧ x16 < lenI x17)).bind fun _ => ((req ((0 : Int) ≤ x16 ∧ x16 < lenI x17)).bind fun _ => ((req ((0 : Int) ≤ (wrap64 (x16 - (1 : Int))) ∧ (wrap64 (x16 - (1 : Int))) < lenI (x17.set (Int.toNat x16) (getI x17 (wrap64 (x16 - (1 : Int))))))).bind fun _ => some (.inl ((wrap64 (x16 - (1 : Int))), ((x17.set (Int.toNat x16) (getI x17 (wrap64 (x16 - (1 : Int))))).set (Int.toNat (wrap64 (x16 - (1 : Int)))) (getI x17 x16)))))))) else some (.inr (x16, x17))))
def gIns1 (a1 : Int) (a2 : Int) (a3 : (α → α → Option Int)) : (Int × (List α)) → Option ((Int × (List α)) ⊕ (Int × (List α)))
 | (x4, x5) => (if (decide (x4 < a2)) = true then ((iter (gIns2 a1 a3) (x4, x5)).bind fun b19 => (match b19 with | (x16, x17) => some (.inl ((wrap64 (x4 + (1 : Int))), x17)))) else some (.inr (x4, x5)))
def gIns (a0 : (List α)) (a1 : Int) (a2 : Int) (a3 : (α → α → Option Int)) : Option (List α) :=
 ((iter (gIns1 a1 a2 a3) ((wrap64 (a1 + (1 : Int))), a0)).bind fun b7 => (match b7 with | (x4, x5) => some x5))

include hc in
theorem gIns2_eq (P : List α) (x : α) : ∀ (R T : List α), P.length + R.length + T.length < 1000000000000 →
    ∃ j, iter (gIns2 (P.length : Int) cmp) (((P.length + R.length : Nat) : Int), P ++ (R.reverse ++ x :: T)) = some (j, P ++ ((insR key x R).reverse ++ T))
  | [], T, h => by
    refine ⟨((P.length + ([] : List α).length : Nat) : Int), iter_end ?_⟩
    simp only [gIns2]
    rw [dec_f (by simp), if_neg (by simp), some_bind, if_neg (by simp)]
    simp [insR]
  | y :: R, T, h => by
    simp only [List.length_cons] at h
    have hj : (((P.length + (y :: R).length : Nat)) : Int) - 1 = ((P.length + R.length : Nat) : Int) := by simp; omega
    have hl : lenI (P ++ ((y :: R).reverse ++ x :: T)) = ((P.length + (R.length + 1) + (T.length + 1) : Nat) : Int) := by simp [lenI]; omega
    have e1 : P ++ ((y :: R).reverse ++ x :: T) = (P ++ R.reverse ++ [y]) ++ x :: T := by simp
    have e2 : P ++ ((y :: R).reverse ++ x :: T) = (P ++ R.reverse) ++ y :: x :: T := by simp
    have gx : getI (P ++ ((y :: R).reverse ++ x :: T)) (((P.length + (y :: R).length : Nat)) : Int) = x := by
      rw [e1, show P.length + (y :: R).length = (P ++ R.reverse ++ [y]).length by simp [Nat.add_assoc], getI_mid]
    have gy : getI (P ++ ((y :: R).reverse ++ x :: T)) (((P.length + R.length : Nat)) : Int) = y := by
      rw [e2, show P.length + R.length = (P ++ R.reverse).length by simp, getI_mid]
    cases hlt : lt (key x) (key y) with
    | true =>
      obtain ⟨j, hj2⟩ := gIns2_eq P x R (y :: T) (by simp; omega)
      refine ⟨j, iter_next (s' := (((P.length + R.length : Nat) : Int), P ++ (R.reverse ++ x :: y :: T))) ?_ ?_⟩
      · simp only [gIns2]
        rw [dec_t (by simp; omega), if_pos rfl, hj, wrap_id (by omega), gx, gy, req_t (by rw [hl]; simp; omega), req_t (by rw [hl]; omega), hc, some_bind, dec_t ((ord_neg _ _).2 hlt), some_bind, if_pos rfl]
        rw [req_t (by rw [hl]; omega), req_t (by rw [hl]; simp; omega), req_t (by rw [hl]; simp; omega)]
        rw [req_t (by simp only [lenI, List.length_set] at hl ⊢; rw [hl]; omega)]
        congr 3
        rw [e1, Int.toNat_natCast, Int.toNat_natCast]
        rw [List.set_append_right _ _ (by simp [Nat.add_assoc]), show P.length + (y :: R).length - (P ++ R.reverse ++ [y]).length = 0 by simp [Nat.add_assoc], List.set_cons_zero]
        rw [show P ++ R.reverse ++ [y] ++ y :: T = (P ++ R.reverse) ++ y :: y :: T by simp]
        rw [List.set_append_right _ _ (by simp), show P.length + R.length - (P ++ R.reverse).length = 0 by simp, List.set_cons_zero]
        simp
      · rw [hj2]
        simp [insR, hlt]
    | false =>
      refine ⟨((P.length + (y :: R).length : Nat) : Int), iter_end ?_⟩
      have ho : ¬ ord (key x) (key y) < 0 := fun e => by rw [(ord_neg _ _).1 e] at hlt; cases hlt
      simp only [gIns2]
      rw [dec_t (by simp; omega), if_pos rfl, hj, wrap_id (by omega), gx, gy, req_t (by rw [hl]; simp; omega), req_t (by rw [hl]; omega), hc, some_bind, dec_f ho, some_bind, if_neg (by simp)]
      simp [insR, hlt]
include hc in
theorem gIns1_eq (P Q : List α) : ∀ (E D : List α), P.length + D.length + E.length + Q.length < 1000000000000 →
    ∃ j, iter (gIns1 (P.length : Int) ((P.length + (D ++ E).length : Nat) : Int) cmp) (((P.length + D.length : Nat) : Int), P ++ (sortS key D ++ (E ++ Q))) = some (j, P ++ (sortS key (D ++ E) ++ Q))
  | [], D, h => by
    refine ⟨((P.length + D.length : Nat) : Int), iter_end ?_⟩
    simp only [gIns1]
    rw [dec_f (by simp), if_neg (by simp)]
    simp
  | x :: E, D, h => by
    simp only [List.length_cons] at h
    obtain ⟨j, hj⟩ := gIns1_eq P Q E (D ++ [x]) (by simp; omega)
    obtain ⟨i, hi⟩ := gIns2_eq key cmp hc P x (sortS key D).reverse (E ++ Q) (by simp [sort_length]; omega)
    refine ⟨j, iter_next (s' := (((P.length + (D ++ [x]).length : Nat) : Int), P ++ (sortS key (D ++ [x]) ++ (E ++ Q)))) ?_ ?_⟩
    · simp only [gIns1]
      rw [dec_t (by simp; omega), if_pos rfl]
      rw [List.reverse_reverse, List.length_reverse, sort_length] at hi
      rw [List.cons_append, hi, some_bind]
      dsimp only
      rw [wrap_id (by omega), insR_insL key x _ (sort_up key D), ← sort_snoc]
      congr 3
      simp; omega
    · rw [show D ++ x :: E = D ++ [x] ++ E by simp]
      exact hj
include hc in
theorem gIns_eq (P M Q : List α) (h : P.length + M.length + Q.length < 100000000000) : gIns (P ++ (M ++ Q)) (P.length : Int) ((P.length + M.length : Nat) : Int) cmp = some (P ++ (sortS key M ++ Q)) := by
  unfold gIns
  rw [wrap_id (by omega)]
  cases M with
  | nil =>
    have : iter (gIns1 (P.length : Int) ((P.length + ([] : List α).length : Nat) : Int) cmp) ((P.length : Int) + 1, P ++ ([] ++ Q)) = some ((P.length : Int) + 1, P ++ ([] ++ Q)) := by
      refine iter_end ?_
      simp only [gIns1]
      rw [dec_f (by simp; omega), if_neg (by simp)]
    rw [this, some_bind]; rfl
  | cons x M =>
    obtain ⟨j, hj⟩ := gIns1_eq key cmp hc P Q M [x] (by simp at h ⊢; omega)
    have e : sortS key [x] = [x] := rfl
    rw [e] at hj
    simp only [List.cons_append, List.nil_append, List.length_cons, List.length_nil] at hj ⊢
    rw [show ((P.length : Int) + 1) = ((P.length + (0 + 1) : Nat) : Int) by omega, hj, some_bind]

def gSt1 (a1 : Int) (a2 : (α → α → Option Int)) : (Int × Int × (List α)) → Option ((Int × Int × (List α)) ⊕ (Int × Int × (List α)))
 | (x6, x7, x8) => (if (decide (x6 ≤ a1)) = true then ((gIns x8 x7 x6 a2).bind fun t16 => some (.inl ((wrap64 (x6 + (20 : Int))), x6, t16))) else some (.inr (x6, x7, x8)))
include hc in
/-- What the sorting begins with, of at most 20. -/
theorem gSt_eq (l : List α) (h : l.length ≤ 20) : ∃ x y m, iter (gSt1 (lenI l) cmp) (20, 0, l) = some (x, y, m) ∧ gIns m y (lenI l) cmp = some (sortS key l) := by
  rcases Nat.lt_or_ge l.length 20 with h20 | h20
  · refine ⟨20, 0, l, iter_end ?_, ?_⟩
    · simp only [gSt1]; rw [dec_f (by simp [lenI]; omega), if_neg (by simp)]
    · have := gIns_eq key cmp hc [] l [] (by simp; omega)
      simpa [lenI] using this
  · have hl : l.length = 20 := by omega
    refine ⟨40, 20, sortS key l, iter_next (s' := (40, 20, sortS key l)) ?_ (iter_end ?_), ?_⟩
    · simp only [gSt1]
      have := gIns_eq key cmp hc [] l [] (by simp; omega)
      rw [hl] at this
      simp only [List.nil_append, List.append_nil, List.length_nil] at this
      rw [dec_t (by simp [lenI]; omega), if_pos rfl, show ((20 : Int)) = ((0 + 20 : Nat) : Int) from rfl, show ((0 : Int)) = ((0 : Nat) : Int) from rfl, this, some_bind, wrap_id (by omega)]
      rfl
    · simp only [gSt1]; rw [dec_f (by simp [lenI]; omega), if_neg (by simp)]
    · have := gIns_eq key cmp hc (sortS key l) [] [] (by simp [sort_length]; omega)
      simp only [List.append_nil, List.length_nil, Nat.add_zero, sort_length, hl] at this
      rw [show sortS key ([] : List α) = [] from rfl, List.append_nil] at this
      rw [lenI, hl]; exact this
end

theorem insLeaf : @slices_insertionSortCmpFunc_Leaf = gIns := rfl
theorem insItem : @slices_insertionSortCmpFunc_Item = gIns := rfl
theorem sortLeaf_eq (key : Leaf → Lab) (cmp : Leaf → Leaf → Option Int) (hc : ∀ x y, cmp x y = some (ord (key x) (key y))) (k : Nat) (l : List Leaf) (h : l.length ≤ 20) : slices_SortStableFunc_Leaf k l cmp = some (sortS key l) := by
  obtain ⟨x, y, m, h1, h2⟩ := gSt_eq key cmp hc l h
  unfold slices_SortStableFunc_Leaf slices_stableCmpFunc_Leaf
  rw [show slices_stableCmpFunc_Leaf_s1 (lenI l) cmp = gSt1 (lenI l) cmp from rfl, h1, some_bind]
  dsimp only
  rw [insLeaf, h2, some_bind]
  have : iter (slices_stableCmpFunc_Leaf_s2 (lenI l)) 20 = some 20 := by
    refine iter_end ?_
    simp only [slices_stableCmpFunc_Leaf_s2]; rw [dec_f (by simp [lenI]; omega), if_neg (by simp)]
  rw [this, some_bind, some_bind]
theorem sortItem_eq (key : Item → Lab) (cmp : Item → Item → Option Int) (hc : ∀ x y, cmp x y = some (ord (key x) (key y))) (k : Nat) (l : List Item) (h : l.length ≤ 20) : slices_SortStableFunc_Item k l cmp = some (sortS key l) := by
  obtain ⟨x, y, m, h1, h2⟩ := gSt_eq key cmp hc l h
  unfold slices_SortStableFunc_Item slices_stableCmpFunc_Item
  rw [show slices_stableCmpFunc_Item_s1 (lenI l) cmp = gSt1 (lenI l) cmp from rfl, h1, some_bind]
  dsimp only
  rw [insItem, h2, some_bind]
  have : iter (slices_stableCmpFunc_Item_s2 (lenI l)) 20 = some 20 := by
    refine iter_end ?_
    simp only [slices_stableCmpFunc_Item_s2]; rw [dec_f (by simp [lenI]; omega), if_neg (by simp)]
  rw [this, some_bind, some_bind]

/-! ### the program's sorting, the document's -/
def sortLf (l : List Leaf) : List Leaf := sortS Leaf.label l
def sortIt (l : List Item) : List Item := sortS Item.bits l
theorem proof_sorted_eq (k : Nat) (l : List Leaf) (h : l.length ≤ 20) : proof_sorted k l = some (sortLf l) := by
  unfold proof_sorted slices_Clone_Leaf
  rw [req_t (by simp [LIM]; omega), some_bind, List.nil_append]
  rw [sortLeaf_eq Leaf.label _ (fun x y => by unfold proof_sorted_1; rw [bits_Order_eq, some_bind]) k l h, some_bind]
  rfl
theorem patch_Sorted_eq (k : Nat) (l : List Item) (h : l.length ≤ 20) : patch_Sorted k l = some (sortIt l) := by
  unfold patch_Sorted slices_Clone_Item
  rw [req_t (by simp [LIM]; omega), some_bind, List.nil_append]
  rw [sortItem_eq Item.bits _ (fun x y => by unfold patch_Sorted_1; rw [bits_Order_eq, some_bind]) k l h, some_bind]
  rfl
def ofS (l : List Leaf) : List Item := sortIt (l.map leafItem)
theorem ofS_length (l : List Leaf) : (ofS l).length = l.length := by unfold ofS sortIt; rw [sort_length, List.length_map]
/-- Items of leaves: sorted ahead or behind. -/
theorem ofS_sort (l : List Leaf) : ofS l = (sortLf l).map leafItem := by
  unfold ofS sortLf sortIt
  exact (sort_map Item.bits leafItem l).symm
theorem sort_sort (l : List Leaf) : sortLf (sortLf l) = sortLf l := sort_id _ _ (sort_up _ _)
theorem ofS_sorted (l : List Leaf) : ofS (sortLf l) = ofS l := by rw [ofS_sort, sort_sort, ofS_sort]
theorem patch_Of_eq (k : Nat) (l : List Leaf) (h : l.length ≤ 20) : patch_Of k l = some (ofS l) := by
  unfold patch_Of
  have := iter_fold (step := patch_Of_s1 l) (fun k s => ((k : Int), s)) l (List.map leafItem) (b := ((l.length : Int), l.map leafItem)) (fun pre x r e => ?_) ?_
  · rw [show ([] : List Item) = List.map leafItem [] from rfl, show ((0 : Int)) = ((0 : Nat) : Int) from rfl, this, some_bind]
    dsimp only
    rw [patch_Sorted_eq _ _ (by simpa using h), some_bind]
    rfl
  · have h1 : (pre.length : Int) < lenI l := by simp [e, lenI]; omega
    have h2 : pre.length < l.length := by simp [e]
    have hx : getI l (pre.length : Int) = x := by rw [e, getI_mid]
    simp only [patch_Of_s1, dec_t h1, if_true, hx]
    rw [req_t (by omega), node_Leaf_Item_eq, some_bind, req_t (by simp [LIM]; omega), wrap_id (by omega), List.map_append]
    rfl
  · simp only [patch_Of_s1]
    rw [dec_f (by simp [lenI]), if_neg (by simp)]
end
end Go.Ch
end
section
/- Lists of items: are they in form? Pieces, copies. -/
set_option linter.unusedVariables false
set_option linter.unusedSimpArgs false
namespace Go.Ch
open Go.RowKit (wrap64)
noncomputable section

def overI (a x : Item) : Bool := decide (a.len ≤ x.len) && decide (a.len ≤ (com a.bits x.bits : Int))
def bad (a x : Item) : Bool := overI a x || (overI x a || !lt a.bits x.bits)
/-- The error of items behind another one. -/
def chk : Option Item → List Item → Int
  | _, [] => 0
  | p, x :: r => if itGood x = false then 1 else if (p.any fun a => bad a x) = true then 3 else chk (some x) r
def checkS (l : List Item) : Int := if 2000 < l.length then 2 else chk none l
theorem chk_val : ∀ (l : List Item) (p : Option Item), chk p l = 0 ∨ chk p l = 1 ∨ chk p l = 3
  | [], p => .inl rfl
  | x :: r, p => by
    unfold chk
    split
    · simp
    · split
      · simp
      · exact chk_val r _
theorem good_of {x : Item} (h : itGood x = true) : goodB x.len x.bits = true := by unfold itGood at h; simp only [Bool.and_eq_true] at h; exact h.1
theorem over_good {a x : Item} (ha : itGood a = true) (hx : itGood x = true) : overB a.len a.bits x.len x.bits = overI a x := by
  unfold overB overI hasB; rw [good_of ha, good_of hx]; simp
theorem last_mid {α : Type} [Inhabited α] (pre : List α) (a : α) (r : List α) : getI (pre ++ [a] ++ r) (((pre ++ [a]).length : Int) - 1) = a := by
  rw [show (((pre ++ [a]).length : Int) - 1) = (pre.length : Int) by simp, List.append_assoc]; exact getI_mid _ _ _
theorem patch_Check_eq (l : List Item) (hl : l.length ≤ 1000000000000) : patch_Check l = some (checkS l) := by
  unfold patch_Check checkS
  by_cases h2 : 2000 < l.length
  · rw [dec_t (by simp [lenI]; omega), if_pos rfl, if_pos h2]
  · rw [dec_f (by simp [lenI]; omega), if_neg (by simp), if_neg h2]
    have := iter_list (step := patch_Check_s1 l) (fun k (_ : Unit) => (k : Int)) l (fun pre _ => ∀ y, pre.getLast? = some y → itGood y = true)
      (fun pre r _ => if chk pre.getLast? r = 0 then (.inr (l.length : Int) : Int ⊕ Int) else .inl (chk pre.getLast? r)) (fun s hI => ?_) (fun pre x r s e hI => ?_) l [] () rfl (by simp)
    · rw [show ((0 : Int)) = ((([] : List Item).length : Nat) : Int) from rfl, this, some_bind]
      rcases chk_val l none with h | h | h <;> simp [h]
    · simp only [patch_Check_s1]
      rw [dec_f (by simp [lenI]), if_neg (by simp)]
      simp [chk]
    · have h1 : (pre.length : Int) < lenI l := by simp [e, lenI]; omega
      have h2 : pre.length < l.length := by simp [e]
      have hx : getI l (pre.length : Int) = x := by rw [e, getI_mid]
      simp only [patch_Check_s1, dec_t h1, if_true, hx]
      rw [req_t (by omega), node_Good_eq, some_bind]
      cases hg : itGood x with
      | false => right; simp [chk, hg]
      | true =>
        simp only [Bool.not_true, Bool.false_eq_true, if_false]
        rcases List.eq_nil_or_concat pre with rfl | ⟨pre', a, rfl⟩
        · left
          refine ⟨(), by simpa using hg, ?_, by simp [chk, hg]; rfl⟩
          rw [wrap_id (by simp)]
          simp
        · rw [List.concat_eq_append] at *
          have ha : itGood a = true := hI a (by simp)
          have hp : getI l ((((pre' ++ [a]).length : Nat) : Int) - 1) = a := by rw [e]; exact last_mid _ _ _
          have h0 : ((((pre' ++ [a]).length : Nat) : Int) == 0) = false := by simp; omega
          rw [h0, if_neg (by simp), wrap_id (by omega), hp, req_t (by rw [lenI]; simp at h2 ⊢; omega), bits_Over_eq, some_bind, bits_Over_eq, bits_Order_eq]
          simp only
          rw [over_good ha hg, over_good hg ha]
          have hbad : bad a x = (overI a x || (overI x a || decide (0 ≤ ord a.bits x.bits))) := by
            unfold bad
            congr 2
            have := ord_neg a.bits x.bits
            cases hlt : lt a.bits x.bits with
            | true => have := this.2 hlt; simp; omega
            | false =>
              have : ¬ ord a.bits x.bits < 0 := fun q => by rw [this.1 q] at hlt; cases hlt
              simp; omega
          cases hb : bad a x with
          | true =>
            right
            rw [hb] at hbad
            cases o1 : overI a x with
            | true => simp [chk, hg, hb]
            | false =>
              cases o2 : overI x a with
              | true => simp [chk, hg, hb]
              | false => rw [o1, o2] at hbad; simp at hbad; simp [chk, hg, hb, hbad]
          | false =>
            left
            rw [hb] at hbad
            have := hbad.symm
            simp only [Bool.or_eq_false_iff] at this
            obtain ⟨o1, o2, o3⟩ := this
            refine ⟨(), by simpa using hg, ?_, by simp [chk, hg, hb]⟩
            rw [o1, o2]
            simp only [Bool.false_eq_true, if_false, some_bind, o3]
            rw [wrap_id (by omega)]
            rfl
theorem r16_over_eq (a x : Item) : r16_over a x = some (overI a x) := by
  unfold r16_over overI
  rw [r01_Common_eq]
  by_cases h : a.len ≤ x.len <;> simp [h]
theorem r16_Check_eq (l : List Item) (hl : l.length ≤ 1000000000000) : r16_Check l = some (checkS l) := by
  unfold r16_Check checkS
  by_cases h2 : 2000 < l.length
  · rw [dec_t (by simp [lenI]; omega), if_pos rfl, if_pos h2]
  · rw [dec_f (by simp [lenI]; omega), if_neg (by simp), if_neg h2]
    have := iter_list (step := r16_Check_s1 l) (fun k (_ : Unit) => (k : Int)) l (fun pre _ => ∀ y, pre.getLast? = some y → itGood y = true)
      (fun pre r _ => if chk pre.getLast? r = 0 then (.inr (l.length : Int) : Int ⊕ Int) else .inl (chk pre.getLast? r)) (fun s hI => ?_) (fun pre x r s e hI => ?_) l [] () rfl (by simp)
    · rw [show ((0 : Int)) = ((([] : List Item).length : Nat) : Int) from rfl, this, some_bind]
      rcases chk_val l none with h | h | h <;> simp [h]
    · simp only [r16_Check_s1]
      rw [dec_f (by simp [lenI]), if_neg (by simp)]
      simp [chk]
    · have h1 : (pre.length : Int) < lenI l := by simp [e, lenI]; omega
      have h2 : pre.length < l.length := by simp [e]
      have hx : getI l (pre.length : Int) = x := by rw [e, getI_mid]
      simp only [r16_Check_s1, dec_t h1, if_true, hx]
      rw [req_t (by omega), r15_Good_eq, some_bind]
      cases hg : itGood x with
      | false => right; simp [chk, hg]
      | true =>
        simp only [Bool.not_true, Bool.false_eq_true, if_false]
        rcases List.eq_nil_or_concat pre with rfl | ⟨pre', a, rfl⟩
        · left
          refine ⟨(), by simpa using hg, ?_, by simp [chk, hg]; rfl⟩
          rw [wrap_id (n := ((([] : List Item).length : Nat) : Int) + 1) (by simp)]
          simp
        · rw [List.concat_eq_append] at *
          have hp : getI l ((((pre' ++ [a]).length : Nat) : Int) - 1) = a := by rw [e]; exact last_mid _ _ _
          have h0 : (0 : Int) < (((pre' ++ [a]).length : Nat) : Int) := by rw [List.length_append, List.length_singleton]; omega
          have hr : (0 : Int) ≤ (((pre' ++ [a]).length : Nat) : Int) - 1 ∧ (((pre' ++ [a]).length : Nat) : Int) - 1 < lenI l := by rw [lenI]; simp at h2 ⊢; omega
          rw [dec_t h0, if_pos rfl, wrap_id (n := (((pre' ++ [a]).length : Nat) : Int) - 1) (by omega), hp, req_t hr, r16_over_eq, some_bind, req_t hr, r16_over_eq, some_bind, req_t hr, r01_Order_eq, some_bind]
          have hord : (ord a.bits x.bits != -1) = !lt a.bits x.bits := by
            have := ord_m1 a.bits x.bits
            cases hlt : lt a.bits x.bits with
            | true => simp [this.2 hlt]
            | false =>
              have : ¬ ord a.bits x.bits = -1 := fun q => by rw [this.1 q] at hlt; cases hlt
              simp [this]
          rw [hord]
          have hbad : bad a x = (overI a x || (overI x a || !lt a.bits x.bits)) := rfl
          cases hb : bad a x with
          | true =>
            right
            rw [hb] at hbad
            cases o1 : overI a x with
            | true => simp [chk, hg, hb]
            | false =>
              cases o2 : overI x a with
              | true => simp [chk, hg, hb]
              | false => rw [o1, o2] at hbad; simp at hbad; simp [chk, hg, hb, hbad]
          | false =>
            left
            rw [hb] at hbad
            have := hbad.symm
            simp only [Bool.or_eq_false_iff] at this
            obtain ⟨o1, o2, o3⟩ := this
            refine ⟨(), by simpa using hg, ?_, by simp [chk, hg, hb]⟩
            rw [o1, o2, o3]
            simp only [Bool.false_eq_true, if_false, some_bind]
            rw [wrap_id (by omega)]
            rfl

/-! ### copies -/
theorem l16_Few_eq (l : List Leaf) (n : Nat) (hn : n ≤ 1000000) : l16_Few l (n : Int) = some (l.take n) := by
  unfold l16_Few
  by_cases h : n < l.length
  · rw [dec_t (by simp [lenI]; omega), if_pos rfl, req_t (by simp [lenI]; omega), cutL_to, req_t (by simp [LIM]; omega)]
    rfl
  · rw [dec_f (by simp [lenI]; omega), if_neg (by simp), req_t (by simp [LIM]; omega), List.take_of_length_le (by omega)]
    rfl
theorem l16_Leaves_eq (l : List Leaf) (hl : l.length ≤ 1000000) : l16_Leaves l = some l := by
  unfold l16_Leaves
  have := iter_fold (step := l16_Leaves_s1 l) (fun k s => ((k : Int), s)) l (fun l => l) (b := ((l.length : Int), l)) (fun pre x r e => ?_) ?_
  · rw [show ((0 : Int)) = ((0 : Nat) : Int) from rfl, this, some_bind]
  · have h1 : (pre.length : Int) < lenI l := by simp [e, lenI]; omega
    have h2 : pre.length < l.length := by simp [e]
    have hx : getI l (pre.length : Int) = x := by rw [e, getI_mid]
    simp only [l16_Leaves_s1, dec_t h1, if_true, hx]
    rw [req_t (by omega), req_t (by simp [LIM]; omega), wrap_id (by omega)]
    rfl
  · simp only [l16_Leaves_s1]
    rw [dec_f (by simp [lenI]), if_neg (by simp)]
theorem l16_Told_eq (l : List Item) (n : Nat) (hn : n ≤ 1000000) : l16_Told l (n : Int) = some (l.take n) := by
  unfold l16_Told
  have := iter_to (step := l16_Told_s1 l (n : Int)) (fun k => ((k : Int), l.take k)) (min n l.length) (b := ((min n l.length : Int), l.take n)) (fun k hk => ?_) ?_
  · rw [show ([] : List Item) = l.take 0 by simp, show ((0 : Int)) = ((0 : Nat) : Int) from rfl, this, some_bind]
  · have h1 : (k : Int) < lenI l := by simp [lenI]; omega
    have h2 : k < l.length := by omega
    simp only [l16_Told_s1, dec_t h1, if_true, some_bind]
    rw [dec_t (by omega), if_pos rfl, req_t (by omega), getI_nat _ _ h2]
    unfold l15_Told
    rw [some_bind, req_t (by simp [LIM]; omega), wrap_id (by omega), List.take_succ_eq_append_getElem h2]
    rfl
  · simp only [l16_Told_s1]
    by_cases h : n < l.length
    · rw [dec_t (by simp [lenI]; omega), if_pos rfl, some_bind, dec_f (by omega), if_neg (by simp)]
      rw [show min n l.length = n by omega]
      congr 3; omega
    · rw [dec_f (by simp [lenI]; omega), if_neg (by simp), some_bind, if_neg (by simp)]
      rw [show min n l.length = l.length by omega, List.take_of_length_le (show l.length ≤ n by omega)]
      simp; omega
def cutP (p : Proof) : Proof := ⟨p.end_, p.leaf, p.a, p.b, p.path.take 300⟩
theorem l18_Cut_eq (p : Proof) : l18_Cut p = some (cutP p) := by
  unfold l18_Cut cutP
  by_cases h : 300 < p.path.length
  · rw [dec_t (by simp [lenI]; omega), if_pos rfl, req_t (by simp [lenI]; omega), show ((300 : Int)) = ((300 : Nat) : Int) from rfl, cutL_to]
  · rw [dec_f (by simp [lenI]; omega), if_neg (by simp), List.take_of_length_le (by omega)]
theorem l18_Told_eq (p : Proof) (h : p.path.length ≤ 300) : l18_Told p = some p := by
  unfold l18_Told l15_Told
  rw [some_bind, some_bind, show ((300 : Int)) = ((300 : Nat) : Int) from rfl, l16_Told_eq _ _ (by omega), some_bind, List.take_of_length_le h]
end
end Go.Ch
end
section
/- Plain laws: rising lists, where they part. -/
set_option linter.unusedVariables false
set_option linter.unusedSimpArgs false
namespace Go.Ch

section
variable {α β : Type} (key : α → Lab)
/-- Strictly rising. -/
def Rise (l : List α) : Prop := l.Pairwise fun a b => lt (key a) (key b) = true
def keyAt (o : Option α) : Lab := match o with | some x => key x | none => zL
/-- How far the first and the last one go together. -/
def fork (l : List α) : Nat := com (keyAt key l.head?) (keyAt key l.getLast?)
def lo (l : List α) (n : Nat) : List α := l.takeWhile fun x => !bt (key x) n
def hi (l : List α) (n : Nat) : List α := l.dropWhile fun x => !bt (key x) n
theorem lo_hi (l : List α) (n : Nat) : lo key l n ++ hi key l n = l := List.takeWhile_append_dropWhile
theorem lo_map (f : β → α) (l : List β) (n : Nat) : (lo (fun b => key (f b)) l n).map f = lo key (l.map f) n := by
  unfold lo; rw [List.takeWhile_map]; rfl
theorem hi_map (f : β → α) (l : List β) (n : Nat) : (hi (fun b => key (f b)) l n).map f = hi key (l.map f) n := by
  unfold hi; rw [List.dropWhile_map]; rfl
theorem fork_map (f : β → α) (l : List β) : fork (fun b => key (f b)) l = fork key (l.map f) := by
  unfold fork; rw [List.head?_map, List.getLast?_map]; cases l.head? <;> cases l.getLast? <;> rfl
theorem rise_map (f : β → α) (l : List β) : Rise (fun b => key (f b)) l ↔ Rise key (l.map f) := by
  unfold Rise; rw [List.pairwise_map]
theorem Rise.up {l : List α} (h : Rise key l) : Up key l := h.imp fun h => lt_asymm h
variable {key}
theorem Rise.app {a b : List α} (h : Rise key (a ++ b)) : Rise key a ∧ Rise key b ∧ ∀ x ∈ a, ∀ y ∈ b, lt (key x) (key y) = true := List.pairwise_append.1 h
theorem Rise.sub {l m : List α} (h : Rise key l) (s : m.Sublist l) : Rise key m := h.sublist s

/-- Between two labels the common beginning is common to all. -/
theorem com_between {a x b : Lab} (h1 : lt a x = true ∨ a = x) (h2 : lt x b = true ∨ x = b) : com a b ≤ com a x := by
  rcases h1 with h1 | rfl
  · rcases h2 with h2 | rfl
    · obtain ⟨p1, p2, p3⟩ := lt_iff.1 h1
      obtain ⟨q1, q2, q3⟩ := lt_iff.1 h2
      rcases Nat.lt_trichotomy (com a x) (com x b) with c | c | c
      · rw [com_min c]; exact Nat.le_refl _
      · rw [← c, p3] at q2; cases q2
      · have := com_min (a := b) (b := x) (c := a) (by rw [com_comm b x, com_comm x a]; exact c)
        rw [com_comm a b, this, com_comm b x]; omega
    · exact Nat.le_refl _
  · rw [com_self]; exact com_le _ _
theorem bt_mono {a b : Lab} {n : Nat} (h : lt a b = true) (hn : n ≤ com a b) (ha : bt a n = true) : bt b n = true := by
  obtain ⟨h1, h2, h3⟩ := lt_iff.1 h
  rcases Nat.lt_or_ge n (com a b) with c | c
  · rw [← com_bt c]; exact ha
  · have : n = com a b := by omega
    rw [this]; exact h3

theorem rise_ends {x : α} {l : List α} (h : Rise key (x :: l)) {y : α} (hy : (x :: l).getLast? = some y) : (∀ z ∈ x :: l, (lt (key x) (key z) = true ∨ x = z) ∧ (lt (key z) (key y) = true ∨ z = y)) := by
  intro z hz
  constructor
  · rcases List.mem_cons.1 hz with rfl | hz
    · exact .inr rfl
    · exact .inl ((List.pairwise_cons.1 h).1 z hz)
  · rcases List.eq_nil_or_concat (x :: l) with e | ⟨m, w, e⟩
    · cases e
    · rw [List.concat_eq_append] at e
      rw [e] at h hz hy
      rw [List.getLast?_concat] at hy
      cases hy
      rcases List.mem_append.1 hz with hz | hz
      · exact .inl (h.app.2.2 z hz y (by simp))
      · exact .inr (by simpa using hz)

/-- What is known of where a rising list of two or more parts. -/
structure Parts (key : α → Lab) (l : List α) : Prop where
  lt : fork key l < 256
  same : ∀ x ∈ l, ∀ y ∈ l, ∀ k, k < fork key l → bt (key x) k = bt (key y) k
  lo0 : ∀ x ∈ lo key l (fork key l), bt (key x) (fork key l) = false
  hi1 : ∀ x ∈ hi key l (fork key l), bt (key x) (fork key l) = true
  lon : lo key l (fork key l) ≠ []
  hin : hi key l (fork key l) ≠ []
  lof : lo key l (fork key l) = l.filter fun x => !bt (key x) (fork key l)
  hif : hi key l (fork key l) = l.filter fun x => bt (key x) (fork key l)
theorem takeWhile_all {p : α → Bool} {l : List α} {x : α} (h : x ∈ l.takeWhile p) : p x = true := by
  induction l with
  | nil => simp at h
  | cons y l ih =>
    rw [List.takeWhile_cons] at h
    split at h
    · rcases List.mem_cons.1 h with rfl | h
      · assumption
      · exact ih h
    · simp at h
theorem Rise.parts {l : List α} (h : Rise key l) (h2 : 2 ≤ l.length) : Parts key l := by
  match l, h, h2 with
  | x :: z :: l, h, _ =>
  obtain ⟨y, hy⟩ : ∃ y, (x :: z :: l).getLast? = some y := ⟨_, List.getLast?_eq_some_getLast (by simp)⟩
  have he := rise_ends h hy
  have hf : fork key (x :: z :: l) = com (key x) (key y) := by unfold fork; rw [hy]; rfl
  have hxy : Ch.lt (key x) (key y) = true := by
    rcases (he x (by simp)).2 with q | q
    · exact q
    · subst q
      have hm : x ∈ z :: l := by
        rw [List.getLast?_cons_cons] at hy
        exact List.mem_of_getLast? hy
      exact (List.pairwise_cons.1 h).1 x hm
  obtain ⟨p1, p2, p3⟩ := lt_iff.1 hxy
  have hcom : ∀ w ∈ x :: z :: l, com (key x) (key y) ≤ com (key x) (key w) := fun w hw => by
    obtain ⟨q1, q2⟩ := he w hw
    exact com_between (q1.imp id (congrArg key)) (q2.imp id (congrArg key))
  have hsame : ∀ w ∈ x :: z :: l, ∀ k, k < com (key x) (key y) → bt (key w) k = bt (key x) k := fun w hw k hk => (com_bt (Nat.lt_of_lt_of_le hk (hcom w hw))).symm
  have hmono : (x :: z :: l).Pairwise fun a b => bt (key a) (com (key x) (key y)) = true → bt (key b) (com (key x) (key y)) = true := by
    refine List.Pairwise.imp_of_mem (fun {a b} ha hb q hq => bt_mono q (le_com (com_le _ _) fun k hk => ?_) hq) h
    rw [hsame a ha k hk, hsame b hb k hk]
  have key1 : ∀ m : List α, m.Pairwise (fun a b => bt (key a) (com (key x) (key y)) = true → bt (key b) (com (key x) (key y)) = true) →
      lo key m (com (key x) (key y)) = m.filter (fun a => !bt (key a) (com (key x) (key y))) ∧ hi key m (com (key x) (key y)) = m.filter (fun a => bt (key a) (com (key x) (key y))) := by
    intro m
    induction m with
    | nil => intro _; exact ⟨rfl, rfl⟩
    | cons a m ih =>
      intro hm
      obtain ⟨m1, m2⟩ := List.pairwise_cons.1 hm
      obtain ⟨i1, i2⟩ := ih m2
      unfold lo hi at *
      cases ha : bt (key a) (com (key x) (key y)) with
      | false => simp [List.takeWhile_cons, List.dropWhile_cons, ha, i1, i2]
      | true =>
        have hall : ∀ b ∈ m, bt (key b) (com (key x) (key y)) = true := fun b hb => m1 b hb ha
        constructor
        · simp only [List.takeWhile_cons, ha, Bool.not_true, Bool.false_eq_true, if_false, List.filter_cons]
          exact (List.filter_eq_nil_iff.2 fun b hb => by simp [hall b hb]).symm
        · simp only [List.dropWhile_cons, ha, Bool.not_true, Bool.false_eq_true, if_false, List.filter_cons, if_true]
          rw [List.filter_eq_self.2 hall]
  obtain ⟨f1, f2⟩ := key1 _ hmono
  have hyl : y ∈ x :: z :: l := List.mem_of_getLast? hy
  refine ⟨by rw [hf]; exact p1, fun a ha b hb k hk => ?_, fun a ha => ?_, fun a ha => ?_, ?_, ?_, by rw [hf]; exact f1, by rw [hf]; exact f2⟩
  · rw [hf] at hk; rw [hsame a ha k hk, hsame b hb k hk]
  · have := takeWhile_all ha; simpa using this
  · rw [hf] at ha ⊢
    rw [f2] at ha
    exact (List.mem_filter.1 ha).2
  · rw [hf]
    unfold lo
    rw [List.takeWhile_cons, p2]; simp
  · rw [hf, f2]
    intro e
    have : y ∈ (x :: z :: l).filter (fun a => bt (key a) (com (key x) (key y))) := List.mem_filter.2 ⟨hyl, p3⟩
    rw [e] at this; simp at this
theorem Parts.less {l : List α} (h : Parts key l) : (lo key l (fork key l)).length < l.length ∧ (hi key l (fork key l)).length < l.length := by
  have := congrArg List.length (lo_hi key l (fork key l))
  rw [List.length_append] at this
  have h1 := List.length_pos_iff.2 h.lon
  have h2 := List.length_pos_iff.2 h.hin
  omega
theorem Rise.halves {l : List α} (h : Rise key l) (n : Nat) : Rise key (lo key l n) ∧ Rise key (hi key l n) :=
  ⟨h.sub (List.takeWhile_sublist _), h.sub (List.dropWhile_sublist _)⟩
end
end Go.Ch
end
section
/- Trees: what the program makes, what the document says. -/
set_option linter.unusedVariables false
set_option linter.unusedSimpArgs false
namespace Go.Ch
open Go.RowKit (wrap64)
noncomputable section

/-- The item of the tree of items that rise. -/
def tree (l : List Item) : Item :=
  if h : (lo Item.bits l (fork Item.bits l)).length < l.length ∧ (hi Item.bits l (fork Item.bits l)).length < l.length ∧ 2 ≤ l.length then
    innerItem (tree (lo Item.bits l (fork Item.bits l))) (tree (hi Item.bits l (fork Item.bits l)))
  else l.head?.getD default
termination_by l.length
decreasing_by
  · exact h.1
  · exact h.2.1
theorem tree_one (x : Item) : tree [x] = x := by rw [tree, dif_neg (by simp)]; rfl
theorem tree_two {l : List Item} (h : Rise Item.bits l) (h2 : 2 ≤ l.length) : tree l = innerItem (tree (lo Item.bits l (fork Item.bits l))) (tree (hi Item.bits l (fork Item.bits l))) := by
  have p := (h.parts h2).less
  rw [tree, dif_pos ⟨p.1, p.2, h2⟩]
theorem one_of {α : Type} {l : List α} (h : l ≠ []) (h2 : ¬ 2 ≤ l.length) : ∃ x, l = [x] := by
  match l, h, h2 with
  | [x], _, _ => exact ⟨x, rfl⟩
  | _ :: _ :: _, _, h2 => simp at h2
theorem first_of {α : Type} {l : List α} (h : l ≠ []) : ∃ x r, l = x :: r := by
  match l, h with
  | x :: r, _ => exact ⟨x, r, rfl⟩
/-- The tree's item bears the common beginning of all. -/
theorem tree_bits : ∀ (m : Nat) (l : List Item), l.length ≤ m → Rise Item.bits l → l ≠ [] → ∀ x ∈ l, (2 ≤ l.length → (tree l).len = (fork Item.bits l : Int) ∧ (tree l).bits = cut x.bits (fork Item.bits l)) ∧ (∀ k, (2 ≤ l.length → k < fork Item.bits l) → bt (tree l).bits k = bt x.bits k) := by
  intro m
  induction m with
  | zero => intro l hl _ hn; exact absurd (List.length_eq_zero_iff.1 (by omega)) hn
  | succ m ih =>
    intro l hl h hn x hx
    by_cases h2 : 2 ≤ l.length
    · have p := h.parts h2
      have q := p.less
      have hh := h.halves (fork Item.bits l)
      obtain ⟨a, ra, ea⟩ := first_of p.lon
      obtain ⟨b, rb, eb⟩ := first_of p.hin
      have hla : a ∈ lo Item.bits l (fork Item.bits l) := by rw [ea]; simp
      have hlb : b ∈ hi Item.bits l (fork Item.bits l) := by rw [eb]; simp
      have hal : a ∈ l := (List.takeWhile_sublist _).subset hla
      have hbl : b ∈ l := (List.dropWhile_sublist _).subset hlb
      have ta := (ih _ (by omega) hh.1 p.lon a hla).2
      have tb := (ih _ (by omega) hh.2 p.hin b hlb).2
      have fa : 2 ≤ (lo Item.bits l (fork Item.bits l)).length → fork Item.bits l < fork Item.bits (lo Item.bits l (fork Item.bits l)) := fun h3 => by
        have pa := hh.1.parts h3
        obtain ⟨c, rc, ec⟩ := first_of pa.lon
        obtain ⟨d, rd, ed⟩ := first_of pa.hin
        have hc : c ∈ lo Item.bits (lo Item.bits l (fork Item.bits l)) (fork Item.bits (lo Item.bits l (fork Item.bits l))) := by rw [ec]; simp
        have hd : d ∈ hi Item.bits (lo Item.bits l (fork Item.bits l)) (fork Item.bits (lo Item.bits l (fork Item.bits l))) := by rw [ed]; simp
        have hc2 := (List.takeWhile_sublist _).subset hc
        have hd2 := (List.dropWhile_sublist _).subset hd
        rcases Nat.lt_trichotomy (fork Item.bits l) (fork Item.bits (lo Item.bits l (fork Item.bits l))) with w | w | w
        · exact w
        · have := pa.hi1 d hd
          rw [← w, p.lo0 d hd2] at this; cases this
        · have := p.same c ((List.takeWhile_sublist _).subset hc2) d ((List.takeWhile_sublist _).subset hd2) _ w
          rw [pa.lo0 c hc, pa.hi1 d hd] at this; cases this
      have fb : 2 ≤ (hi Item.bits l (fork Item.bits l)).length → fork Item.bits l < fork Item.bits (hi Item.bits l (fork Item.bits l)) := fun h3 => by
        have pa := hh.2.parts h3
        obtain ⟨c, rc, ec⟩ := first_of pa.lon
        obtain ⟨d, rd, ed⟩ := first_of pa.hin
        have hc : c ∈ lo Item.bits (hi Item.bits l (fork Item.bits l)) (fork Item.bits (hi Item.bits l (fork Item.bits l))) := by rw [ec]; simp
        have hd : d ∈ hi Item.bits (hi Item.bits l (fork Item.bits l)) (fork Item.bits (hi Item.bits l (fork Item.bits l))) := by rw [ed]; simp
        have hc2 := (List.takeWhile_sublist _).subset hc
        have hd2 := (List.dropWhile_sublist _).subset hd
        rcases Nat.lt_trichotomy (fork Item.bits l) (fork Item.bits (hi Item.bits l (fork Item.bits l))) with w | w | w
        · exact w
        · have := pa.lo0 c hc
          rw [← w, p.hi1 c hc2] at this; cases this
        · have := p.same c ((List.dropWhile_sublist _).subset hc2) d ((List.dropWhile_sublist _).subset hd2) _ w
          rw [pa.lo0 c hc, pa.hi1 d hd] at this; cases this
      have hcom : com (tree (lo Item.bits l (fork Item.bits l))).bits (tree (hi Item.bits l (fork Item.bits l))).bits = fork Item.bits l := by
        refine com_eq (by have := p.lt; omega) (fun k hk => ?_) (fun _ => ?_)
        · rw [ta k fun h3 => by have := fa h3; omega, tb k fun h3 => by have := fb h3; omega]
          exact p.same a hal b hbl k hk
        · rw [ta _ fa, tb _ fb, p.lo0 a hla, p.hi1 b hlb]; simp
      have hcut : cut (tree (lo Item.bits l (fork Item.bits l))).bits (fork Item.bits l) = cut x.bits (fork Item.bits l) := by
        refine lab_ext fun k hk => ?_
        rw [bt_cut, bt_cut]
        by_cases c : k < fork Item.bits l
        · rw [ta k fun h3 => by have := fa h3; omega, p.same a hal x hx k c]
        · simp [c]
      rw [tree_two h h2]
      refine ⟨fun _ => ⟨?_, ?_⟩, fun k hk => ?_⟩
      · show ((com _ _ : Nat) : Int) = _
        rw [hcom]
      · show cut _ (com _ _) = _
        rw [hcom, hcut]
      · show bt (cut _ (com _ _)) k = _
        rw [hcom, hcut, bt_cut]; simp [hk h2]
    · obtain ⟨y, rfl⟩ := one_of hn h2
      have : x = y := by simpa using hx
      subst this
      rw [tree_one]
      exact ⟨fun q => absurd q h2, fun _ _ => rfl⟩
theorem tree_len {l : List Item} (h : Rise Item.bits l) (h2 : 2 ≤ l.length) : (tree l).len = (fork Item.bits l : Int) := by
  have hn : l ≠ [] := by intro e; rw [e] at h2; simp at h2
  obtain ⟨x, r, e⟩ := first_of hn
  exact ((tree_bits l.length l (Nat.le_refl _) h hn x (by rw [e]; simp)).1 h2).1
theorem tree_good {l : List Item} (h : Rise Item.bits l) (h2 : 2 ≤ l.length) : goodB (tree l).len (tree l).bits = true := by
  have hn : l ≠ [] := by intro e; rw [e] at h2; simp at h2
  obtain ⟨x, r, e⟩ := first_of hn
  obtain ⟨e1, e2⟩ := (tree_bits l.length l (Nat.le_refl _) h hn x (by rw [e]; simp)).1 h2
  rw [e1, e2]
  exact good_cut _ _ (by have := (h.parts h2).lt; omega)

/-! ### where lists part -/
section
variable {α : Type} [Inhabited α]
def gIdx1 (a0 : (List α)) (a1 : (α → Option Bool)) : (Int) → Option ((Int) ⊕ (Int ⊕ (Int)))
 | x6 => (if (decide (x6 < (lenI a0))) = true then ((req ((0 : Int) ≤ x6 ∧ x6 < lenI a0)).bind fun _ => ((a1 (getI a0 x6)).bind fun t21 => (if t21 = true then some (.inr (.inl x6)) else some (.inl (wrap64 (x6 + (1 : Int))))))) else some (.inr (.inr x6)))
def gIdx (a0 : (List α)) (a1 : (α → Option Bool)) : Option Int :=
 ((iter (gIdx1 a0 a1) (0 : Int)).bind fun b8 => (match b8 with | .inl r₀ => some r₀ | .inr x6 => some (-1 : Int)))
/-- The place of the first such one, or -1. -/
theorem gIdx_eq (l : List α) (f : α → Option Bool) (p : α → Bool) (hf : ∀ x ∈ l, f x = some (p x)) (hl : l.length ≤ 1000000000000) :
    gIdx l f = some (if (l.takeWhile fun x => !p x).length < l.length then ((l.takeWhile fun x => !p x).length : Int) else -1) := by
  unfold gIdx
  have := iter_list (step := gIdx1 l f) (fun k (_ : Unit) => (k : Int)) l (fun pre _ => True)
      (fun pre r _ => if (r.takeWhile fun x => !p x).length < r.length then (.inl ((pre.length + (r.takeWhile fun x => !p x).length : Nat) : Int) : Int ⊕ Int) else .inr (l.length : Int)) (fun s hI => ?_) (fun pre x r s e hI => ?_) l [] () rfl trivial
  · rw [show ((0 : Int)) = ((([] : List α).length : Nat) : Int) from rfl, this, some_bind]
    by_cases h : (l.takeWhile fun x => !p x).length < l.length
    · simp [h]
    · simp [h]
  · simp only [gIdx1]
    rw [dec_f (by simp [lenI]), if_neg (by simp)]
    simp
  · have h1 : (pre.length : Int) < lenI l := by simp [e, lenI]; omega
    have h2 : pre.length < l.length := by simp [e]
    have hx : getI l (pre.length : Int) = x := by rw [e, getI_mid]
    simp only [gIdx1, dec_t h1, if_true, hx]
    rw [req_t (by omega), hf x (by rw [e]; simp), some_bind]
    cases hp : p x with
    | true => right; simp [List.takeWhile_cons, hp]
    | false =>
      left
      refine ⟨(), trivial, ?_, ?_⟩
      · rw [wrap_id (by omega)]; rfl
      · simp only [List.takeWhile_cons, hp, Bool.not_false, if_true, List.length_cons, List.length_append, List.length_nil]
        by_cases c : (r.takeWhile fun x => !p x).length < r.length
        · rw [if_pos (by omega), if_pos c]; congr 2; omega
        · rw [if_neg (by omega), if_neg c]
end
theorem idxLeaf : @slices_IndexFunc_Leaf = gIdx := rfl
theorem idxItem : @slices_IndexFunc_Item = gIdx := rfl
theorem take_lo {α : Type} (p : α → Bool) (l : List α) : l.take (l.takeWhile p).length = l.takeWhile p ∧ l.drop (l.takeWhile p).length = l.dropWhile p := by
  have h : l.takeWhile p ++ l.dropWhile p = l := List.takeWhile_append_dropWhile
  constructor
  · conv => lhs; arg 2; rw [← h]
    exact List.take_left
  · conv => lhs; arg 2; rw [← h]
    exact List.drop_left
theorem proof_sides_eq (l : List Leaf) (n : Nat) (hl : l.length ≤ 1000000000000) : proof_sides l (n : Int) = some (lo Leaf.label l n, hi Leaf.label l n) := by
  unfold proof_sides
  rw [idxLeaf, gIdx_eq l _ (fun x => bt x.label n) (fun x _ => by unfold proof_sides_1; rw [bits_Bit_eq, some_bind, bitI_nat, b01_one]) hl, some_bind]
  obtain ⟨t1, t2⟩ := take_lo (fun x : Leaf => !bt x.label n) l
  have hsum : (l.takeWhile fun x : Leaf => !bt x.label n).length ≤ l.length := (List.takeWhile_sublist _).length_le
  by_cases h : (l.takeWhile fun x : Leaf => !bt x.label n).length < l.length
  · rw [if_pos h, dec_f (by omega), if_neg (by simp), req_t (by simp [lenI]; omega), req_t (by simp [lenI]; omega), cutL_to, cutL_from, t1, t2]
    rfl
  · rw [if_neg h, dec_t (by omega), if_pos rfl, req_t (by simp [lenI]), req_t (by simp [lenI])]
    have e : (l.takeWhile fun x : Leaf => !bt x.label n).length = l.length := by omega
    rw [e] at t1 t2
    unfold lo hi
    rw [← t1, ← t2]
    rw [show lenI l = (l.length : Int) from rfl, cutL_to]
    have : cutL l (l.length : Int) (l.length : Int) = l.drop l.length := cutL_from l l.length
    rw [this]
end
end Go.Ch
end
section
/- Trees, joined: the program's way, the document's way. -/
set_option linter.unusedVariables false
set_option linter.unusedSimpArgs false
namespace Go.Ch
open Go.RowKit (wrap64)
noncomputable section

theorem keyAt_first {α : Type} [Inhabited α] (key : α → Lab) {l : List α} (h : l ≠ []) : key (getI l 0) = keyAt key l.head? := by
  obtain ⟨x, r, rfl⟩ := first_of h
  rfl
theorem keyAt_last {α : Type} [Inhabited α] (key : α → Lab) {l : List α} (h : l ≠ []) : key (getI l (lenI l - 1)) = keyAt key l.getLast? := by
  rcases List.eq_nil_or_concat l with e | ⟨m, w, e⟩
  · exact absurd e h
  · rw [List.concat_eq_append] at e
    subst e
    rw [List.getLast?_concat]
    have := last_mid m w []
    simp only [List.append_nil] at this
    rw [lenI, this]; rfl
theorem lenI_pos {α : Type} {l : List α} (h : l ≠ []) : 0 < lenI l := by
  have := List.length_pos_iff.2 h; simp [lenI]; omega

theorem patch_join_eq : ∀ (k : Nat) (l : List Item), l ≠ [] → l.length ≤ k → l.length ≤ 1000000 → Rise Item.bits l → patch_join k l = some (tree l)
  | 0, l, hn, hk, _, _ => absurd (List.length_eq_zero_iff.1 (by omega)) hn
  | k + 1, l, hn, hk, hs, h => by
    rw [patch_join]
    have hp := lenI_pos hn
    by_cases h2 : 2 ≤ l.length
    · have p := h.parts h2
      have q := p.less
      have hh := h.halves (fork Item.bits l)
      have h1 : (lenI l == 1) = false := by simp [lenI]; omega
      have e1 : com (getI l 0).bits (getI l (lenI l - 1)).bits = fork Item.bits l := by
        unfold fork; rw [← keyAt_first Item.bits hn, ← keyAt_last Item.bits hn]
      simp only [h1, Bool.false_eq_true, if_false]
      rw [req_t (by omega), wrap_id (by rw [lenI]; omega), req_t (by omega), bits_Common_eq, some_bind, e1]
      rw [idxItem, gIdx_eq l _ (fun x => bt x.bits (fork Item.bits l)) (fun x _ => by unfold patch_join_1; rw [bits_Bit_eq, some_bind, bitI_nat, b01_one]) (by omega), some_bind]
      have hlt : (l.takeWhile fun x : Item => !bt x.bits (fork Item.bits l)).length < l.length := q.1
      obtain ⟨t1, t2⟩ : l.take (l.takeWhile fun x : Item => !bt x.bits (fork Item.bits l)).length = lo Item.bits l (fork Item.bits l) ∧ l.drop (l.takeWhile fun x : Item => !bt x.bits (fork Item.bits l)).length = hi Item.bits l (fork Item.bits l) := take_lo _ _
      rw [if_pos hlt, req_t (by rw [lenI]; omega), cutL_to, t1]
      rw [patch_join_eq k _ p.lon (by omega) (by omega) hh.1, some_bind]
      rw [req_t (by rw [lenI]; omega), cutL_from, t2]
      rw [patch_join_eq k _ p.hin (by omega) (by omega) hh.2, some_bind]
      rw [node_Inner_Item_eq, some_bind, tree_two h h2]
    · obtain ⟨x, rfl⟩ := one_of hn h2
      have h1 : (lenI [x] == 1) = true := rfl
      simp only [h1, if_true]
      rw [req_t (by simp [lenI]), tree_one]
      rfl
/-! ### over leaves -/
def lit (l : List Leaf) : List Item := l.map leafItem
theorem lit_rise {l : List Leaf} : Rise Leaf.label l ↔ Rise Item.bits (lit l) := rise_map Item.bits leafItem l
theorem lit_fork (l : List Leaf) : fork Leaf.label l = fork Item.bits (lit l) := fork_map Item.bits leafItem l
theorem lit_lo (l : List Leaf) (n : Nat) : lit (lo Leaf.label l n) = lo Item.bits (lit l) n := lo_map Item.bits leafItem l n
theorem lit_hi (l : List Leaf) (n : Nat) : lit (hi Leaf.label l n) = hi Item.bits (lit l) n := hi_map Item.bits leafItem l n
theorem lit_len (l : List Leaf) : (lit l).length = l.length := List.length_map _
theorem lit_nil {l : List Leaf} : lit l = [] ↔ l = [] := List.map_eq_nil_iff
/-- The halves of a rising list of leaves. -/
def loL (l : List Leaf) : List Leaf := lo Leaf.label l (fork Leaf.label l)
def hiL (l : List Leaf) : List Leaf := hi Leaf.label l (fork Leaf.label l)
theorem tree_leaves {l : List Leaf} (h : Rise Leaf.label l) (h2 : 2 ≤ l.length) : tree (lit l) = innerItem (tree (lit (loL l))) (tree (lit (hiL l))) := by
  rw [tree_two (lit_rise.1 h) (by rw [lit_len]; exact h2)]
  unfold loL hiL
  rw [lit_lo, lit_hi, lit_fork]
theorem halvesL {l : List Leaf} (h : Rise Leaf.label l) (h2 : 2 ≤ l.length) : loL l ≠ [] ∧ hiL l ≠ [] ∧ (loL l).length < l.length ∧ (hiL l).length < l.length ∧ Rise Leaf.label (loL l) ∧ Rise Leaf.label (hiL l) :=
  have p := h.parts h2
  have hh := h.halves (fork Leaf.label l)
  ⟨p.lon, p.hin, p.less.1, p.less.2, hh.1, hh.2⟩

theorem proof_pair_eq (rec : List Leaf → Option Item) (l : List Leaf) (h2 : 2 ≤ l.length) (hs : l.length ≤ 1000000) (h : Rise Leaf.label l)
    (hr : ∀ m : List Leaf, m ≠ [] → m.length < l.length → Rise Leaf.label m → rec m = some (tree (lit m))) : proof_pair rec l = some ⟨tree (lit (loL l)), tree (lit (hiL l))⟩ := by
  have hn : l ≠ [] := by intro e; rw [e] at h2; simp at h2
  have hp := lenI_pos hn
  obtain ⟨q1, q2, q3, q4, q5, q6⟩ := halvesL h h2
  have e1 : com (getI l 0).label (getI l (lenI l - 1)).label = fork Leaf.label l := by
    unfold fork; rw [← keyAt_first Leaf.label hn, ← keyAt_last Leaf.label hn]
  unfold proof_pair
  rw [req_t (by omega), wrap_id (by rw [lenI]; omega), req_t (by omega), bits_Common_eq, some_bind, e1, proof_sides_eq _ _ (by omega), some_bind]
  dsimp only
  rw [show lo Leaf.label l (fork Leaf.label l) = loL l from rfl, show hi Leaf.label l (fork Leaf.label l) = hiL l from rfl]
  rw [hr _ q1 q3 q5, some_bind, hr _ q2 q4 q6, some_bind]
theorem proof_item_eq : ∀ (k : Nat) (l : List Leaf), l ≠ [] → l.length ≤ k → l.length ≤ 1000000 → Rise Leaf.label l → proof_item k l = some (tree (lit l))
  | 0, l, hn, hk, _, _ => absurd (List.length_eq_zero_iff.1 (by omega)) hn
  | k + 1, l, hn, hk, hs, h => by
    rw [proof_item]
    have hp := lenI_pos hn
    by_cases h2 : 2 ≤ l.length
    · have h1 : (lenI l == 1) = false := by simp [lenI]; omega
      simp only [h1, Bool.false_eq_true, if_false]
      rw [proof_pair_eq _ l h2 hs h (fun m m1 m2 m3 => proof_item_eq k m m1 (by omega) (by omega) m3), some_bind, node_Inner_Item_eq, some_bind, tree_leaves h h2]
    · obtain ⟨x, rfl⟩ := one_of hn h2
      have h1 : (lenI [x] == 1) = true := rfl
      simp only [h1, if_true]
      rw [req_t (by simp [lenI]), node_Leaf_Item_eq, some_bind]
      rw [show lit [x] = [leafItem x] from rfl, tree_one]
      rfl
theorem proof_pair_at (k : Nat) (l : List Leaf) (h2 : 2 ≤ l.length) (hk : l.length ≤ k) (hs : l.length ≤ 1000000) (h : Rise Leaf.label l) : proof_pair (proof_item k) l = some ⟨tree (lit (loL l)), tree (lit (hiL l))⟩ :=
  proof_pair_eq _ l h2 hs h fun m m1 m2 m3 => proof_item_eq k m m1 (by omega) (by omega) m3

/-! ### the document's way -/
theorem foldl_min {α : Type} (f : α → Int) (c : Int) : ∀ (l : List α) (m : Int), (∀ x ∈ l, c ≤ f x) → c ≤ m → (m = c ∨ ∃ x ∈ l, f x = c) → l.foldl (fun m x => min m (f x)) m = c
  | [], m, _, _, h => by rcases h with h | ⟨x, hx, _⟩; exact h; simp at hx
  | x :: l, m, h1, h2, h3 => by
    rw [List.foldl_cons]
    have hx := h1 x (by simp)
    refine foldl_min f c l _ (fun y hy => h1 y (by simp [hy])) (by omega) ?_
    rcases h3 with h3 | ⟨y, hy, e⟩
    · left; omega
    · rcases List.mem_cons.1 hy with rfl | hy
      · left; omega
      · right; exact ⟨y, hy, e⟩
def parted (l : List Item) (n : Nat) : List Item × List Item := (l.filter fun x => !bt x.bits n, l.filter fun x => bt x.bits n)
theorem r18_sides_eq (l : List Item) (n : Nat) (hl : l.length ≤ 1000000) : r18_sides l (n : Int) = some (parted l n) := by
  unfold r18_sides
  have := iter_fold (step := r18_sides_s1 l (n : Int)) (fun k (s : List Item × List Item) => ((k : Int), s.2, s.1)) l (fun m => parted m n) (b := ((l.length : Int), (parted l n).2, (parted l n).1)) (fun pre x r e => ?_) ?_
  · have this' : iter (r18_sides_s1 l (n : Int)) (0, [], []) = some ((l.length : Int), (parted l n).2, (parted l n).1) := this
    rw [this', some_bind]
  · have h1 : (pre.length : Int) < lenI l := by simp [e, lenI]; omega
    have h2 : pre.length < l.length := by simp [e]
    have hx : getI l (pre.length : Int) = x := by rw [e, getI_mid]
    have f1 : (parted pre n).1.length ≤ pre.length := List.length_filter_le _ _
    have f2 : (parted pre n).2.length ≤ pre.length := List.length_filter_le _ _
    simp only [r18_sides_s1, dec_t h1, if_true, hx]
    rw [req_t (by omega), r01_Bit_eq, some_bind, bitI_nat, b01_zero]
    cases hb : bt x.bits n with
    | true =>
      simp only [Bool.not_true, Bool.false_eq_true, if_false]
      rw [req_t (by simp [LIM]; omega), wrap_id (by omega)]
      simp [parted, List.filter_append, hb]
    | false =>
      simp only [Bool.not_false, if_true]
      rw [req_t (by simp [LIM]; omega), wrap_id (by omega)]
      simp [parted, List.filter_append, hb]
  · simp only [r18_sides_s1]
    rw [dec_f (by simp [lenI]), if_neg (by simp)]
theorem r16_part_eq (l : List Item) (n : Nat) (hl : l.length ≤ 1000000) : iter (r16_Join_s2 l (n : Int)) (0, [], []) = some ((l.length : Int), (parted l n).2, (parted l n).1) := by
  have := iter_fold (step := r16_Join_s2 l (n : Int)) (fun k (s : List Item × List Item) => ((k : Int), s.2, s.1)) l (fun m => parted m n) (b := ((l.length : Int), (parted l n).2, (parted l n).1)) (fun pre x r e => ?_) ?_
  · exact this
  · have h1 : (pre.length : Int) < lenI l := by simp [e, lenI]; omega
    have h2 : pre.length < l.length := by simp [e]
    have hx : getI l (pre.length : Int) = x := by rw [e, getI_mid]
    have f1 : (parted pre n).1.length ≤ pre.length := List.length_filter_le _ _
    have f2 : (parted pre n).2.length ≤ pre.length := List.length_filter_le _ _
    simp only [r16_Join_s2, dec_t h1, if_true, hx]
    rw [req_t (by omega), r01_Bit_eq, some_bind, bitI_nat, b01_zero]
    cases hb : bt x.bits n with
    | true =>
      simp only [Bool.not_true, Bool.false_eq_true, if_false]
      rw [req_t (by simp [LIM]; omega), wrap_id (by omega)]
      simp [parted, List.filter_append, hb]
    | false =>
      simp only [Bool.not_false, if_true]
      rw [req_t (by simp [LIM]; omega), wrap_id (by omega)]
      simp [parted, List.filter_append, hb]
  · simp only [r16_Join_s2]
    rw [dec_f (by simp [lenI]), if_neg (by simp)]
theorem r16_Join_eq : ∀ (k : Nat) (l : List Item), l ≠ [] → l.length ≤ k → l.length ≤ 1000000 → Rise Item.bits l → r16_Join k l = some (tree l)
  | 0, l, hn, hk, _, _ => absurd (List.length_eq_zero_iff.1 (by omega)) hn
  | k + 1, l, hn, hk, hs, h => by
    rw [r16_Join]
    have hp := lenI_pos hn
    by_cases h2 : 2 ≤ l.length
    · have p := h.parts h2
      have q := p.less
      have hh := h.halves (fork Item.bits l)
      have h1 : (lenI l == 1) = false := by simp [lenI]; omega
      simp only [h1, Bool.false_eq_true, if_false]
      have hgl : ∃ y ∈ l, com (getI l 0).bits y.bits = fork Item.bits l := by
        refine ⟨getI l (lenI l - 1), ?_, ?_⟩
        · rcases List.eq_nil_or_concat l with e | ⟨m, w, e⟩
          · exact absurd e hn
          · rw [List.concat_eq_append] at e
            subst e
            have := last_mid m w []
            simp only [List.append_nil] at this
            rw [lenI, this]; simp
        · unfold fork; rw [← keyAt_first Item.bits hn, ← keyAt_last Item.bits hn]
      have h0m : getI l 0 ∈ l := by obtain ⟨x, r, rfl⟩ := first_of hn; exact List.mem_cons_self
      have hit := iter_fold (step := r16_Join_s1 l) (fun k s => ((k : Int), s)) l (fun m => m.foldl (fun m x => min m ((com (getI l 0).bits x.bits : Nat) : Int)) 256) (b := ((l.length : Int), (fork Item.bits l : Int))) (fun pre x r e => ?_) ?_
      · simp only [List.foldl_nil] at hit
        rw [show ((0 : Int)) = ((0 : Nat) : Int) from rfl, hit, some_bind]
        dsimp only
        have := p.lt
        rw [dec_f (by omega), if_neg (by simp), show (((0 : Nat)) : Int) = 0 from rfl, r16_part_eq l _ hs, some_bind]
        dsimp only
        have el : (parted l (fork Item.bits l)).1 = lo Item.bits l (fork Item.bits l) := p.lof.symm
        have eh : (parted l (fork Item.bits l)).2 = hi Item.bits l (fork Item.bits l) := p.hif.symm
        rw [el, eh, r16_Join_eq k _ p.lon (by omega) (by omega) hh.1, some_bind, r16_Join_eq k _ p.hin (by omega) (by omega) hh.2, some_bind, r16_Inner_eq, some_bind, tree_two h h2]
      · have h1 : (pre.length : Int) < lenI l := by simp [e, lenI]; omega
        have h2 : pre.length < l.length := by simp [e]
        have hx : getI l (pre.length : Int) = x := by rw [e, getI_mid]
        simp only [r16_Join_s1, dec_t h1, if_true, hx]
        rw [req_t (by omega), req_t (by omega), r01_Common_eq, some_bind, wrap_id (by omega), List.foldl_append]
        rfl
      · simp only [r16_Join_s1]
        rw [dec_f (by simp [lenI]), if_neg (by simp)]
        have hfold := foldl_min (fun x : Item => ((com (getI l 0).bits x.bits : Nat) : Int)) (fork Item.bits l : Int) l 256 (fun x hx => by
          have := le_com (l := (getI l 0).bits) (m := x.bits) (n := fork Item.bits l) (by have := p.lt; omega) fun k hk => p.same _ h0m x hx k hk
          omega) (by have := p.lt; omega) (by obtain ⟨y, hy, e⟩ := hgl; exact .inr ⟨y, hy, by rw [e]⟩)
        rw [hfold]
    · obtain ⟨x, rfl⟩ := one_of hn h2
      have h1 : (lenI [x] == 1) = true := rfl
      simp only [h1, if_true]
      rw [req_t (by simp [lenI]), tree_one]
      rfl

/-! ### in form: rising -/
theorem chk_rise : ∀ (l : List Item) (p : Option Item), chk p l = 0 → (∀ a, p = some a → itGood a = true) → Rise Item.bits (p.toList ++ l) ∧ ∀ x ∈ l, itGood x = true
  | [], p, _, _ => by cases p <;> simp [Rise]
  | x :: r, p, h, hp => by
    unfold chk at h
    split at h
    · cases h
    · rename_i hg
      have hg : itGood x = true := by simpa using hg
      split at h
      · cases h
      · rename_i hb
        obtain ⟨h1, h2⟩ := chk_rise r (some x) h (fun a e => by cases e; exact hg)
        refine ⟨?_, fun y hy => ?_⟩
        · cases p with
          | none => exact h1
          | some a =>
            have hl : lt a.bits x.bits = true := by
              have hb : bad a x = false := by simpa using hb
              unfold bad at hb
              simp only [Bool.or_eq_false_iff] at hb
              simpa using hb.2.2
            refine List.pairwise_cons.2 ⟨fun y hy => ?_, h1⟩
            have h1' : Rise Item.bits (x :: r) := h1
            rcases List.mem_cons.1 hy with rfl | hy
            · exact hl
            · exact lt_trans hl ((List.pairwise_cons.1 h1').1 y hy)
        · rcases List.mem_cons.1 hy with rfl | hy
          · exact hg
          · exact h2 y hy
theorem check_rise {l : List Item} (h : checkS l = 0) : Rise Item.bits l ∧ (∀ x ∈ l, itGood x = true) ∧ l.length ≤ 2000 := by
  unfold checkS at h
  split at h
  · cases h
  · obtain ⟨h1, h2⟩ := chk_rise l none h (fun a e => by cases e)
    exact ⟨h1, h2, by omega⟩
def topS (l : List Item) : Lab := if l = [] then emptyS else (tree l).sum
theorem patch_Top_eq (k : Nat) (l : List Item) (hk : l.length ≤ k) (hl : l.length ≤ 1000000) : patch_Top k l = some (if checkS l = 0 then (topS l, 0) else (zL, checkS l)) := by
  unfold patch_Top topS
  rw [patch_Check_eq _ (by omega), some_bind]
  by_cases h : checkS l = 0
  · have hr := check_rise h
    rw [h]
    simp only [bne_self_eq_false, Bool.false_eq_true, if_false, if_true]
    by_cases hn : l = []
    · subst hn
      rw [if_pos rfl, node_Empty_eq, some_bind]
      rfl
    · have h0 : (lenI l == 0) = false := by have := lenI_pos hn; simp; omega
      rw [h0, if_neg (by simp), patch_join_eq k l hn hk hl hr.1, some_bind, if_neg hn]
  · have h0 : (checkS l != 0) = true := by simpa using h
    rw [h0, if_pos rfl, if_neg h]
end
end Go.Ch
end
section
/- The way towards a label: made by the program, by the document. -/
set_option linter.unusedVariables false
set_option linter.unusedSimpArgs false
namespace Go.Ch
open Go.RowKit (wrap64)
noncomputable section

/-! ### a list turned round -/
section
variable {α : Type} [Inhabited α]
def gRev1  : (Int × Int × (List α)) → Option ((Int × Int × (List α)) ⊕ (Int × Int × (List α)))
 | (x4, x5, x6) => (if (decide (x5 < x4)) = true then ((req ((0 : Int) ≤ x4 ∧ x4 < lenI x6)).bind fun _ => ((req ((0 : Int) ≤ x5 ∧ x5 < lenI x6)).bind fun _ => ((req ((0 : Int) ≤ x5 ∧ x5 < lenI x6)).bind fun _ => ((req ((0 : Int) ≤ x4 ∧ x4 < lenI (x6.set (Int.toNat x5) (getI x6 x4)))).bind fun _ => some (.inl ((wrap64 (x4 - (1 : Int))), (wrap64 (x5 + (1 : Int))), ((x6.set (Int.toNat x5) (getI x6 x4)).set (Int.toNat x4) (getI x6 x5)))))))) else some (.inr (x4, x5, x6)))
theorem gRev_eq : ∀ (n : Nat) (P M Q : List α), M.length ≤ n → P.length + M.length + Q.length ≤ 1000000000 → ∃ i j, iter gRev1 (((P.length + M.length : Nat) : Int) - 1, (P.length : Int), P ++ (M ++ Q)) = some (i, j, P ++ (M.reverse ++ Q)) := by
  intro n
  induction n with
  | zero =>
    intro P M Q hM _
    have : M = [] := List.length_eq_zero_iff.1 (by omega)
    subst this
    refine ⟨((P.length + ([] : List α).length : Nat) : Int) - 1, (P.length : Int), iter_end ?_⟩
    simp only [gRev1]
    rw [dec_f (by simp; omega), if_neg (by simp)]
    rfl
  | succ n ih =>
    intro P M Q hM hs
    by_cases h2 : 2 ≤ M.length
    · obtain ⟨x, r, rfl⟩ := first_of (l := M) (by intro e; rw [e] at h2; simp at h2)
      rcases List.eq_nil_or_concat r with rfl | ⟨m, y, rfl⟩
      · simp at h2
      · rw [List.concat_eq_append] at *
        simp only [List.length_cons, List.length_append, List.length_nil] at hM hs h2
        obtain ⟨i, j, hij⟩ := ih (P ++ [y]) m (x :: Q) (by omega) (by simp; omega)
        refine ⟨i, j, iter_next (s' := ((((P ++ [y]).length + m.length : Nat) : Int) - 1, ((P ++ [y]).length : Int), (P ++ [y]) ++ (m ++ (x :: Q)))) ?_ ?_⟩
        · have e0 : P ++ (x :: (m ++ [y]) ++ Q) = P ++ x :: (m ++ ([y] ++ Q)) := by simp
          have e1 : P ++ (x :: (m ++ [y]) ++ Q) = (P ++ x :: m) ++ y :: Q := by simp
          have gx : getI (P ++ (x :: (m ++ [y]) ++ Q)) (P.length : Int) = x := by rw [e0, getI_mid]
          have hj : ((P.length + (x :: (m ++ [y])).length : Nat) : Int) - 1 = ((P ++ x :: m).length : Int) := by simp; omega
          have gy : getI (P ++ (x :: (m ++ [y]) ++ Q)) ((P ++ x :: m).length : Int) = y := by rw [e1, getI_mid]
          have hl : lenI (P ++ (x :: (m ++ [y]) ++ Q)) = ((P.length + m.length + 2 + Q.length : Nat) : Int) := by simp [lenI]; omega
          have hjl : ((P ++ x :: m).length : Int) = ((P.length + m.length + 1 : Nat) : Int) := by simp; omega
          rw [hj]
          simp only [gRev1]
          rw [dec_t (by rw [hjl]; omega), if_pos rfl, req_t (by rw [hl, hjl]; omega), req_t (by rw [hl]; omega), req_t (by rw [hl]; omega), req_t (by simp only [lenI, List.length_set] at hl ⊢; rw [hl, hjl]; omega)]
          rw [gx, gy, wrap_id (by rw [hjl]; omega), wrap_id (by omega)]
          have s1 : (P ++ (x :: (m ++ [y]) ++ Q)).set (Int.toNat (P.length : Int)) y = (P ++ y :: m) ++ y :: Q := by
            rw [Int.toNat_natCast, e0, List.set_append_right _ _ (Nat.le_refl _), Nat.sub_self, List.set_cons_zero]; simp
          rw [s1, Int.toNat_natCast]
          have s2 : ((P ++ y :: m) ++ y :: Q).set (P ++ x :: m).length x = (P ++ [y]) ++ (m ++ (x :: Q)) := by
            rw [List.set_append_right _ _ (by simp), show (P ++ x :: m).length - (P ++ y :: m).length = 0 by simp, List.set_cons_zero]; simp
          rw [s2]
          congr 3
          · simp; omega
          · congr 1; simp
        · rw [hij]; simp
    · have hr : M.reverse = M := by
        rcases M with _ | ⟨x, _ | ⟨y, r⟩⟩
        · rfl
        · rfl
        · simp at h2
      refine ⟨((P.length + M.length : Nat) : Int) - 1, (P.length : Int), iter_end ?_⟩
      simp only [gRev1]
      rw [dec_f (by omega), if_neg (by simp), hr]
end
theorem revItem : slices_Reverse_Item_s1 = gRev1 := rfl
theorem reverse_eq (l : List Item) (hl : l.length ≤ 1000000) : slices_Reverse_Item l = some l.reverse := by
  obtain ⟨i, j, h⟩ := gRev_eq l.length [] l [] (Nat.le_refl _) (by simp; omega)
  simp only [List.nil_append, List.append_nil, List.length_nil, Nat.zero_add] at h
  unfold slices_Reverse_Item
  rw [revItem, wrap_id (by rw [lenI]; omega)]
  rw [show lenI l = (l.length : Int) from rfl, show ((0 : Int)) = ((0 : Nat) : Int) from rfl, h, some_bind]

/-! ### the way -/
def zLf : Leaf := ⟨zL, zL, 0⟩
def zIt : Item := ⟨0, zL, zL, 0⟩
def zPf : Proof := ⟨0, zLf, zIt, zIt, []⟩
def Proof.adds (w : Proof) (p : List Item) : Proof := ⟨w.end_, w.leaf, w.a, w.b, w.path ++ p⟩
def hasI (x : Item) (lab : Lab) : Bool := hasB x.len x.bits lab
/-- The way in the tree of leaves that rise. -/
def way (l : List Leaf) (lab : Lab) : Proof :=
  if h : (loL l).length < l.length ∧ (hiL l).length < l.length ∧ 2 ≤ l.length then
    if hasI (tree (lit l)) lab = false then ⟨2, zLf, tree (lit (loL l)), tree (lit (hiL l)), []⟩
    else if bt lab (fork Leaf.label l) = true then (way (hiL l) lab).adds [tree (lit (loL l))]
    else (way (loL l) lab).adds [tree (lit (hiL l))]
  else (l.head?.elim zPf fun x => ⟨1, x, zIt, zIt, []⟩)
termination_by l.length
decreasing_by
  · exact h.2.1
  · exact h.1
theorem way_two {l : List Leaf} (h : Rise Leaf.label l) (h2 : 2 ≤ l.length) (lab : Lab) : way l lab =
    if hasI (tree (lit l)) lab = false then ⟨2, zLf, tree (lit (loL l)), tree (lit (hiL l)), []⟩
    else if bt lab (fork Leaf.label l) = true then (way (hiL l) lab).adds [tree (lit (loL l))] else (way (loL l) lab).adds [tree (lit (hiL l))] := by
  obtain ⟨_, _, q3, q4, _, _⟩ := halvesL h h2
  rw [way, dif_pos ⟨q3, q4, h2⟩]
theorem way_one (x : Leaf) (lab : Lab) : way [x] lab = ⟨1, x, zIt, zIt, []⟩ := by rw [way, dif_neg (by simp)]; rfl
theorem way_nil (lab : Lab) : way [] lab = zPf := by rw [way, dif_neg (by simp)]; rfl
theorem tree_lenL {l : List Leaf} (h : Rise Leaf.label l) (h2 : 2 ≤ l.length) : (tree (lit l)).len = (fork Leaf.label l : Int) := by
  rw [tree_len (lit_rise.1 h) (by rw [lit_len]; exact h2), lit_fork]
theorem small_of {l : List Leaf} (h2 : ¬ 2 ≤ l.length) : l = [] ∨ ∃ x, l = [x] := by
  by_cases h : l = []
  · exact .inl h
  · exact .inr (one_of h h2)

def makeEnd (b : (Proof × Int ⊕ ((List Leaf) × (List Item)))) : Option (Proof × Int) :=
  (match b with | .inl r₀ => some r₀ | .inr (x75, x78) => ((slices_Reverse_Item x78).bind fun t163 => (if ((lenI x75) == (0 : Int)) = true then some ((⟨(0 : Int), (⟨zL, zL, 0⟩ : Leaf), (⟨0, zL, zL, 0⟩ : Item), (⟨0, zL, zL, 0⟩ : Item), t163⟩ : Proof), (0 : Int)) else ((req ((0 : Int) ≤ (0 : Int) ∧ (0 : Int) < lenI x75)).bind fun _ => some ((⟨(1 : Int), (getI x75 (0 : Int)), (⟨0, zL, zL, 0⟩ : Item), (⟨0, zL, zL, 0⟩ : Item), t163⟩ : Proof), (0 : Int))))))
theorem proof_Make_loop (k : Nat) (lab : Lab) : ∀ (n : Nat) (l : List Leaf) (p : List Item), l.length ≤ n → l.length ≤ k → l.length + p.length ≤ 100000 → Rise Leaf.label l →
    ∃ b, iter (proof_Make_s1 k lab) (l, p) = some b ∧ makeEnd b = some ((way l lab).adds p.reverse, 0) := by
  intro n
  induction n with
  | zero =>
    intro l p hl hk hs h
    have : l = [] := List.length_eq_zero_iff.1 (by omega)
    subst this
    refine ⟨.inr ([], p), iter_end ?_, ?_⟩
    · simp only [proof_Make_s1]; rw [dec_f (by simp [lenI]), if_neg (by simp)]
    · unfold makeEnd
      simp only
      rw [reverse_eq _ (by simp at hs; omega), some_bind, way_nil]
      rfl
  | succ n ih =>
    intro l p hl hk hs h
    by_cases h2 : 2 ≤ l.length
    · obtain ⟨q1, q2, q3, q4, q5, q6⟩ := halvesL h h2
      have hstep : proof_Make_s1 k lab (l, p) = (if (!hasI (tree (lit l)) lab) = true then some (.inr (.inl ((⟨2, zLf, tree (lit (loL l)), tree (lit (hiL l)), p.reverse⟩ : Proof), 0)))
          else if bt lab (fork Leaf.label l) = true then some (.inl (hiL l, p ++ [tree (lit (loL l))])) else some (.inl (loL l, p ++ [tree (lit (hiL l))]))) := by
        simp only [proof_Make_s1]
        rw [dec_t (by rw [lenI]; omega), if_pos rfl, proof_pair_at k l h2 hk (by omega) h, some_bind, node_Inner_Item_eq, some_bind, bits_Has_eq, some_bind]
        simp only
        rw [← tree_leaves h h2, tree_lenL h h2, ← tree_lenL h h2]
        rw [show hasB (tree (lit l)).len (tree (lit l)).bits lab = hasI (tree (lit l)) lab from rfl, tree_lenL h h2]
        cases hasI (tree (lit l)) lab with
        | false => simp only [Bool.not_false, if_true]; rw [reverse_eq _ (by omega), some_bind]; rfl
        | true =>
          simp only [Bool.not_true, Bool.false_eq_true, if_false]
          rw [proof_sides_eq _ _ (by omega), some_bind, bits_Bit_eq, some_bind, bitI_nat, b01_one]
          cases bt lab (fork Leaf.label l) with
          | true =>
            simp only [if_true]
            rw [show lo Leaf.label l (fork Leaf.label l) = loL l from rfl, show hi Leaf.label l (fork Leaf.label l) = hiL l from rfl]
            rw [proof_item_eq k _ q1 (by omega) (by omega) q5, some_bind, req_t (by simp [LIM]; omega)]
          | false =>
            simp only [Bool.false_eq_true, if_false]
            rw [show lo Leaf.label l (fork Leaf.label l) = loL l from rfl, show hi Leaf.label l (fork Leaf.label l) = hiL l from rfl]
            rw [proof_item_eq k _ q2 (by omega) (by omega) q6, some_bind, req_t (by simp [LIM]; omega)]
      rw [way_two h h2]
      cases hh : hasI (tree (lit l)) lab with
      | false =>
        rw [hh] at hstep
        refine ⟨_, iter_end hstep, ?_⟩
        rfl
      | true =>
        rw [hh] at hstep
        simp only [Bool.not_true, Bool.false_eq_true, if_false] at hstep
        cases hb : bt lab (fork Leaf.label l) with
        | true =>
          rw [hb] at hstep
          obtain ⟨b, h3, h4⟩ := ih (hiL l) (p ++ [tree (lit (loL l))]) (by omega) (by omega) (by simp; omega) q6
          refine ⟨b, iter_next hstep h3, ?_⟩
          rw [h4]
          simp [Proof.adds]
        | false =>
          rw [hb] at hstep
          obtain ⟨b, h3, h4⟩ := ih (loL l) (p ++ [tree (lit (hiL l))]) (by omega) (by omega) (by simp; omega) q5
          refine ⟨b, iter_next hstep h3, ?_⟩
          rw [h4]
          simp [Proof.adds]
    · refine ⟨.inr (l, p), iter_end ?_, ?_⟩
      · simp only [proof_Make_s1]; rw [dec_f (by rw [lenI]; omega), if_neg (by simp)]
      · unfold makeEnd
        simp only
        rw [reverse_eq _ (by omega), some_bind]
        rcases small_of h2 with rfl | ⟨x, rfl⟩
        · rw [way_nil]; rfl
        · rw [way_one, show (lenI [x] == 0) = false from rfl, if_neg (by simp), req_t (by simp [lenI])]; rfl
theorem proof_Make_eq (k : Nat) (l : List Leaf) (lab : Lab) (hl : l.length ≤ 20) (hk : l.length ≤ k) : proof_Make k l lab = some (if checkS (ofS l) = 0 then (way (sortLf l) lab, 0) else (zPf, checkS (ofS l))) := by
  have hsl : (sortLf l).length = l.length := sort_length _ _
  unfold proof_Make
  rw [proof_sorted_eq k l hl, some_bind, patch_Of_eq k _ (by omega), some_bind, ofS_sorted, patch_Check_eq _ (by rw [ofS_length]; omega), some_bind]
  by_cases h : checkS (ofS l) = 0
  · have hr := (check_rise h).1
    rw [ofS_sort] at hr
    obtain ⟨b, h1, h2⟩ := proof_Make_loop k lab _ (sortLf l) [] (Nat.le_refl _) (by omega) (by simp; omega) (lit_rise.2 hr)
    rw [h]
    simp only [bne_self_eq_false, Bool.false_eq_true, if_false, if_true]
    rw [h1, some_bind]
    show makeEnd b = _
    rw [h2]
    simp [Proof.adds]
  · have h0 : (checkS (ofS l) != 0) = true := by simpa using h
    rw [h0, if_pos rfl, if_neg h]
    rfl

/-! ### the document's -/
theorem rise_inj {α : Type} {key : α → Lab} {l : List α} (h : Rise key l) : ∀ x ∈ l, ∀ y ∈ l, key x = key y → x = y := by
  induction l with
  | nil => intro x hx; simp at hx
  | cons a l ih =>
    obtain ⟨h1, h2⟩ := List.pairwise_cons.1 h
    intro x hx y hy e
    rcases List.mem_cons.1 hx with hx | hx <;> rcases List.mem_cons.1 hy with hy | hy
    · rw [hx, hy]
    · exact absurd (hx ▸ e) (lt_ne (h1 y hy))
    · exact absurd (hy ▸ e).symm (lt_ne (h1 x hx))
    · exact ih h2 x hx y hy e
theorem r18_has_good {x : Item} (h : goodB x.len x.bits = true) (lab : Lab) : r18_has x lab = some (hasI x lab) := by
  rw [r18_has_eq, has_same h]; rfl
def makeEnd2 (a0 : List Leaf) (b : (Proof ⊕ ((List Item) × (List Item)))) : Option Proof :=
  (match b with | .inl r₀ => some r₀ | .inr (x20, x23) => ((iter (r18_Make_s2 a0 x20) ((0 : Int), 0, zL, zL, 0)).bind fun b156 => (match b156 with | (x150, x151, x152, x153, x154) => some (⟨x151, (⟨x152, x153, x154⟩ : Leaf), (⟨0, zL, zL, 0⟩ : Item), (⟨0, zL, zL, 0⟩ : Item), x23⟩ : Proof))))
theorem find_none (a0 : List Leaf) (hl : a0.length ≤ 1000000) : iter (r18_Make_s2 a0 []) (0, 0, zL, zL, 0) = some ((a0.length : Int), 0, zL, zL, 0) := by
  have := iter_fold (step := r18_Make_s2 a0 []) (fun k (s : Unit) => ((k : Int), (0 : Int), zL, zL, (0 : Int))) a0 (fun _ => ()) (b := ((a0.length : Int), 0, zL, zL, 0)) (fun pre x r e => ?_) ?_
  · exact this
  · have h1 : (pre.length : Int) < lenI a0 := by simp [e, lenI]; omega
    have h2 : pre.length < a0.length := by simp [e]
    simp only [r18_Make_s2, dec_t h1, if_true]
    rw [req_t (by omega), show (lenI ([] : List Item) == 1) = false from rfl, if_neg (by simp), some_bind, if_neg (by simp), wrap_id (by omega)]
    rfl
  · simp only [r18_Make_s2]
    rw [dec_f (by simp [lenI]), if_neg (by simp)]
theorem find_one (a0 : List Leaf) (hl : a0.length ≤ 1000000) (y : Leaf) (hy : y ∈ a0) (hu : ∀ x ∈ a0, x.label = y.label → x = y) : iter (r18_Make_s2 a0 [leafItem y]) (0, 0, zL, zL, 0) = some ((a0.length : Int), 1, y.label, y.value, y.at_) := by
  let F : List Leaf → Int × Leaf := fun m => if m.any (fun x => x.label == y.label) = true then (1, y) else (0, zLf)
  have hF : F a0 = (1, y) := by
    have : a0.any (fun x => x.label == y.label) = true := List.any_eq_true.2 ⟨y, hy, by simp⟩
    simp only [F, this, if_true]
  have := iter_fold (step := r18_Make_s2 a0 [leafItem y]) (fun k (s : Int × Leaf) => ((k : Int), s.1, s.2.label, s.2.value, s.2.at_)) a0 F (b := ((a0.length : Int), 1, y.label, y.value, y.at_)) (fun pre x r e => ?_) ?_
  · exact this
  · have h1 : (pre.length : Int) < lenI a0 := by simp [e, lenI]; omega
    have h2 : pre.length < a0.length := by simp [e]
    have hx : getI a0 (pre.length : Int) = x := by rw [e, getI_mid]
    simp only [r18_Make_s2, dec_t h1, if_true, hx]
    rw [req_t (by omega), show (lenI [leafItem y] == 1) = true from rfl, if_pos rfl, req_t (by simp [lenI]), some_bind, show (getI [leafItem y] 0).bits = y.label from rfl, wrap_id (by omega)]
    by_cases c : x.label = y.label
    · have := hu x (by rw [e]; simp) c
      subst this
      simp [F]
    · have : (x.label == y.label) = false := by simpa using c
      simp only [F, List.any_append, List.any_cons, List.any_nil, this, Bool.or_false, Bool.false_eq_true, if_false]
      rfl
  · simp only [r18_Make_s2]
    rw [dec_f (by simp [lenI]), if_neg (by simp), hF]
theorem r18_Make_loop (k : Nat) (lab : Lab) (a0 : List Leaf) (ha : a0.length ≤ 1000000) (hu : ∀ x ∈ a0, ∀ y ∈ a0, x.label = y.label → x = y) : ∀ (n : Nat) (l : List Leaf) (p : List Item), l.length ≤ n → l.length ≤ k → l.length + p.length ≤ 100000 → Rise Leaf.label l → (∀ x ∈ l, x ∈ a0) →
    ∃ b, iter (r18_Make_s1 k lab) (lit l, p) = some b ∧ makeEnd2 a0 b = some ((way l lab).adds p) := by
  intro n
  induction n with
  | zero =>
    intro l p hl hk hs h hm
    have : l = [] := List.length_eq_zero_iff.1 (by omega)
    subst this
    refine ⟨.inr (lit [], p), iter_end ?_, ?_⟩
    · simp only [r18_Make_s1]; rw [dec_f (by simp [lenI, lit]), if_neg (by simp)]
    · unfold makeEnd2
      simp only
      rw [show lit [] = [] from rfl, find_none a0 ha, some_bind, way_nil]
      rfl
  | succ n ih =>
    intro l p hl hk hs h hm
    by_cases h2 : 2 ≤ l.length
    · obtain ⟨q1, q2, q3, q4, q5, q6⟩ := halvesL h h2
      have hn : l ≠ [] := by intro e; rw [e] at h2; simp at h2
      have hI := lit_rise.1 h
      have h2' : 2 ≤ (lit l).length := by rw [lit_len]; exact h2
      have pt := hI.parts h2'
      have el : (parted (lit l) (fork Leaf.label l)).1 = lit (loL l) := by unfold loL; rw [lit_lo, lit_fork]; exact pt.lof.symm
      have eh : (parted (lit l) (fork Leaf.label l)).2 = lit (hiL l) := by unfold hiL; rw [lit_hi, lit_fork]; exact pt.hif.symm
      have hjl : r16_Join k (lit (loL l)) = some (tree (lit (loL l))) := r16_Join_eq k _ (by rw [Ne, lit_nil]; exact q1) (by rw [lit_len]; omega) (by rw [lit_len]; omega) (lit_rise.1 q5)
      have hjh : r16_Join k (lit (hiL l)) = some (tree (lit (hiL l))) := r16_Join_eq k _ (by rw [Ne, lit_nil]; exact q2) (by rw [lit_len]; omega) (by rw [lit_len]; omega) (lit_rise.1 q6)
      have hstep : r18_Make_s1 k lab (lit l, p) = (if (!hasI (tree (lit l)) lab) = true then some (.inr (.inl (⟨2, zLf, tree (lit (loL l)), tree (lit (hiL l)), p⟩ : Proof)))
          else if bt lab (fork Leaf.label l) = true then some (.inl (lit (hiL l), [tree (lit (loL l))] ++ p)) else some (.inl (lit (loL l), [tree (lit (hiL l))] ++ p))) := by
        simp only [r18_Make_s1]
        rw [dec_t (by rw [lenI, lit_len]; omega), if_pos rfl, r16_Join_eq k _ (by rw [Ne, lit_nil]; exact hn) (by rw [lit_len]; omega) (by rw [lit_len]; omega) hI, some_bind]
        rw [tree_lenL h h2, r18_sides_eq _ _ (by rw [lit_len]; omega), some_bind, r18_has_good (tree_good hI h2'), some_bind]
        rw [show parted (lit l) (fork Leaf.label l) = (lit (loL l), lit (hiL l)) from Prod.ext el eh]
        simp only
        cases hasI (tree (lit l)) lab with
        | false => simp only [Bool.not_false, if_true]; rw [hjl, some_bind, hjh, some_bind]; rfl
        | true =>
          simp only [Bool.not_true, Bool.false_eq_true, if_false]
          rw [r01_Bit_eq, some_bind, bitI_nat, b01_one]
          cases bt lab (fork Leaf.label l) with
          | true =>
            simp only [if_true]
            rw [hjl, some_bind, req_t (by simp [LIM]; omega)]
          | false =>
            simp only [Bool.false_eq_true, if_false]
            rw [hjh, some_bind, req_t (by simp [LIM]; omega)]
      rw [way_two h h2]
      have hlo : ∀ x ∈ loL l, x ∈ a0 := fun x hx => hm x ((List.takeWhile_sublist _).subset hx)
      have hhi : ∀ x ∈ hiL l, x ∈ a0 := fun x hx => hm x ((List.dropWhile_sublist _).subset hx)
      cases hh : hasI (tree (lit l)) lab with
      | false =>
        rw [hh] at hstep
        refine ⟨_, iter_end hstep, ?_⟩
        simp [makeEnd2, Proof.adds]
      | true =>
        rw [hh] at hstep
        simp only [Bool.not_true, Bool.false_eq_true, if_false] at hstep
        cases hb : bt lab (fork Leaf.label l) with
        | true =>
          rw [hb] at hstep
          obtain ⟨b, h3, h4⟩ := ih (hiL l) ([tree (lit (loL l))] ++ p) (by omega) (by omega) (by simp; omega) q6 hhi
          refine ⟨b, iter_next hstep h3, ?_⟩
          rw [h4]
          simp [Proof.adds]
        | false =>
          rw [hb] at hstep
          obtain ⟨b, h3, h4⟩ := ih (loL l) ([tree (lit (hiL l))] ++ p) (by omega) (by omega) (by simp; omega) q5 hlo
          refine ⟨b, iter_next hstep h3, ?_⟩
          rw [h4]
          simp [Proof.adds]
    · refine ⟨.inr (lit l, p), iter_end ?_, ?_⟩
      · simp only [r18_Make_s1]; rw [dec_f (by rw [lenI, lit_len]; omega), if_neg (by simp)]
      · unfold makeEnd2
        simp only
        rcases small_of h2 with rfl | ⟨x, rfl⟩
        · rw [show lit [] = [] from rfl, find_none a0 ha, some_bind, way_nil]; rfl
        · rw [show lit [x] = [leafItem x] from rfl, find_one a0 ha x (hm x (by simp)) (fun z hz e => hu z hz x (hm x (by simp)) e), some_bind, way_one]; rfl
/-! ### the document's sorting -/
theorem r16_Sorted_s2_eq (a0 : List Item) (i : Int) (x : Item) (hx : getI a0 i = x) (l : List Item) (hl : l.length ≤ 1000000) :
    ∃ b, iter (r16_Sorted_s2 a0 i l) (0, false, []) = some ((l.length : Int), b, if b = true then insL Item.bits x l else l) ∧ (b = false → insL Item.bits x l = l ++ [x]) := by
  let F : List Item → Bool × List Item := fun m => (m.any (fun y => lt x.bits y.bits), if m.any (fun y => lt x.bits y.bits) = true then insL Item.bits x m else m)
  have snoc : ∀ m : List Item, ∀ y, insL Item.bits x (m ++ [y]) = if m.any (fun y => lt x.bits y.bits) = true then insL Item.bits x m ++ [y] else if lt x.bits y.bits = true then m ++ [x, y] else m ++ [y, x] := by
    intro m y
    induction m with
    | nil => simp [insL]
    | cons z m ih =>
      by_cases hz : lt x.bits z.bits = true
      · simp [insL, hz]
      · simp only [List.cons_append, insL, hz, if_false, ih, List.any_cons, Bool.false_or, Bool.false_eq_true]
        split
        · rfl
        · split <;> rfl
  have none : ∀ m : List Item, m.any (fun y => lt x.bits y.bits) = false → insL Item.bits x m = m ++ [x] := by
    intro m
    induction m with
    | nil => intro _; rfl
    | cons z m ih =>
      intro h
      simp only [List.any_cons, Bool.or_eq_false_iff] at h
      simp [insL, h.1, ih h.2]
  have := iter_fold (step := r16_Sorted_s2 a0 i l) (fun k (s : Bool × List Item) => ((k : Int), s.1, s.2)) l F (b := ((l.length : Int), (F l).1, (F l).2)) (fun pre y r e => ?_) ?_
  · exact ⟨(F l).1, this, fun hb => none l hb⟩
  · have h1 : (pre.length : Int) < lenI l := by simp [e, lenI]; omega
    have h2 : pre.length < l.length := by simp [e]
    have hy : getI l (pre.length : Int) = y := by rw [e, getI_mid]
    have hins := insL_length Item.bits x pre
    have hFl : (F pre).2.length ≤ pre.length + 1 := by simp only [F]; split <;> omega
    simp only [r16_Sorted_s2, dec_t h1, if_true, hy]
    rw [req_t (by omega), hx, wrap_id (by omega)]
    cases hb : pre.any (fun y => lt x.bits y.bits) with
    | true =>
      have e1 : (F pre).1 = true := hb
      have e2 : (F pre).2 = insL Item.bits x pre := by simp only [F, hb, if_true]
      have e3 : (F (pre ++ [y])).1 = true := by simp only [F, List.any_append, hb, Bool.true_or]
      have e4 : (F (pre ++ [y])).2 = insL Item.bits x pre ++ [y] := by
        show (if (pre ++ [y]).any _ = true then _ else _) = _
        rw [List.any_append, hb, Bool.true_or, if_pos rfl, snoc, hb, if_pos rfl]
      rw [e1, e2, e3, e4]
      simp only [Bool.not_true, Bool.false_eq_true, if_false, some_bind]
      rw [req_t (by rw [hins]; simp [LIM]; omega)]
      rfl
    | false =>
      have e1 : (F pre).1 = false := hb
      have e2 : (F pre).2 = pre := by simp only [F, hb, Bool.false_eq_true, if_false]
      rw [e1, e2]
      simp only [Bool.not_false, if_true]
      rw [r01_Order_eq, some_bind, some_bind]
      cases hlt : lt x.bits y.bits with
      | true =>
        have e3 : (F (pre ++ [y])).1 = true := by simp [F, hlt]
        have e4 : (F (pre ++ [y])).2 = pre ++ [x, y] := by
          show (if (pre ++ [y]).any _ = true then _ else _) = _
          rw [List.any_append, hb, Bool.false_or, show [y].any (fun y => lt x.bits y.bits) = true by simp [hlt], if_pos rfl, snoc, hb, hlt]; simp
        rw [e3, e4, (ord_m1 _ _).2 hlt]
        simp only [beq_self_eq_true, if_true]
        rw [req_t (by simp [LIM]; omega), req_t (by simp [LIM]; omega), List.append_assoc]
        rfl
      | false =>
        have ho : (ord x.bits y.bits == -1) = false := by
          have : ¬ ord x.bits y.bits = -1 := fun q => by rw [(ord_m1 _ _).1 q] at hlt; cases hlt
          simpa using this
        have e3 : (F (pre ++ [y])).1 = false := by simp only [F, List.any_append, hb, Bool.false_or]; simp [hlt]
        have e4 : (F (pre ++ [y])).2 = pre ++ [y] := by
          show (if (pre ++ [y]).any _ = true then _ else _) = _
          rw [List.any_append, hb, Bool.false_or, show [y].any (fun y => lt x.bits y.bits) = false by simp [hlt], if_neg (by simp)]
        rw [e3, e4, ho]
        simp only [Bool.false_eq_true, if_false]
        rw [req_t (by simp [LIM]; omega)]
        rfl
  · simp only [r16_Sorted_s2]
    rw [dec_f (by simp [lenI]), if_neg (by simp)]
theorem r16_Sorted_eq (l : List Item) (hl : l.length ≤ 100000) : r16_Sorted l = some (sortIt l) := by
  unfold r16_Sorted
  have := iter_fold (step := r16_Sorted_s1 l) (fun k s => ((k : Int), s)) l sortIt (b := ((l.length : Int), sortIt l)) (fun pre x r e => ?_) ?_
  · rw [show ([] : List Item) = sortIt [] from rfl, show ((0 : Int)) = ((0 : Nat) : Int) from rfl, this, some_bind]
  · have h1 : (pre.length : Int) < lenI l := by simp [e, lenI]; omega
    have h2 : pre.length < l.length := by simp [e]
    have hx : getI l (pre.length : Int) = x := by rw [e, getI_mid]
    have hsl : (sortIt pre).length = pre.length := sort_length _ _
    obtain ⟨b, h3, h4⟩ := r16_Sorted_s2_eq l (pre.length : Int) x hx (sortIt pre) (by omega)
    simp only [r16_Sorted_s1, dec_t h1, if_true]
    rw [req_t (by omega), h3, some_bind]
    dsimp only
    rw [hx, wrap_id (by omega)]
    have hs : sortIt (pre ++ [x]) = insL Item.bits x (sortIt pre) := sort_snoc _ _ _
    rw [hs]
    cases b with
    | true => simp only [Bool.not_true, Bool.false_eq_true, if_false, if_true]; rfl
    | false =>
      simp only [Bool.not_false, if_true, Bool.false_eq_true, if_false]
      rw [req_t (by simp [LIM]; omega), h4 rfl]
      rfl
  · simp only [r16_Sorted_s1]
    rw [dec_f (by simp [lenI]), if_neg (by simp)]
theorem r16_Of_eq (l : List Leaf) (h : l.length ≤ 100000) : r16_Of l = some (ofS l) := by
  unfold r16_Of
  have := iter_fold (step := r16_Of_s1 l) (fun k s => ((k : Int), s)) l (List.map leafItem) (b := ((l.length : Int), l.map leafItem)) (fun pre x r e => ?_) ?_
  · rw [show ([] : List Item) = List.map leafItem [] from rfl, show ((0 : Int)) = ((0 : Nat) : Int) from rfl, this, some_bind]
    dsimp only
    rw [r16_Sorted_eq _ (by simpa using h), some_bind]
    rfl
  · have h1 : (pre.length : Int) < lenI l := by simp [e, lenI]; omega
    have h2 : pre.length < l.length := by simp [e]
    have hx : getI l (pre.length : Int) = x := by rw [e, getI_mid]
    simp only [r16_Of_s1, dec_t h1, if_true, hx]
    rw [req_t (by omega), r16_Leaf_eq, some_bind, req_t (by simp [LIM]; omega), wrap_id (by omega), List.map_append]
    rfl
  · simp only [r16_Of_s1]
    rw [dec_f (by simp [lenI]), if_neg (by simp)]
theorem sorted_of_check {l : List Leaf} (h : checkS (ofS l) = 0) : Rise Leaf.label (sortLf l) := by
  have := (check_rise h).1
  rw [ofS_sort] at this
  exact lit_rise.2 this
theorem r18_Make_eq (k : Nat) (l : List Leaf) (lab : Lab) (hl : l.length ≤ 10000) (hk : l.length ≤ k) (h : checkS (ofS l) = 0) : r18_Make k l lab = some (way (sortLf l) lab) := by
  have hr := sorted_of_check h
  have hsl : (sortLf l).length = l.length := sort_length _ _
  have hm : ∀ x, x ∈ sortLf l ↔ x ∈ l := sort_mem _ _
  obtain ⟨b, h1, h2⟩ := r18_Make_loop k lab l (by omega) (fun x hx y hy e => rise_inj hr x ((hm x).2 hx) y ((hm y).2 hy) e) _ (sortLf l) [] (Nat.le_refl _) (by omega) (by simp; omega) hr (fun x hx => (hm x).1 hx)
  unfold r18_Make
  rw [r16_Of_eq l (by omega), some_bind, ofS_sort, show (sortLf l).map leafItem = lit (sortLf l) from rfl, h1, some_bind]
  show makeEnd2 l b = _
  rw [h2]
  simp [Proof.adds]
end
end Go.Ch
end
section
/- The nodes of a way, and what a proof says. -/
set_option linter.unusedVariables false
set_option linter.unusedSimpArgs false
namespace Go.Ch
open Go.RowKit (wrap64)
noncomputable section

def ndItem : Nd → Item
  | .leaf x => leafItem x
  | .inner x => innerItem x.l x.r
  | .nil => default
def ndText : Nd → Str
  | .leaf x => leafBytes x
  | .inner x => innerBytes x.l x.r
  | .nil => []
theorem proof_Summed_eq (n : Nd) : proof_Summed n = some (ndText n) := by
  unfold proof_Summed
  cases n with
  | leaf x => simp only; rw [node_LeafBytes_eq, some_bind]; rfl
  | inner x => simp only; rw [node_InnerBytes_eq, some_bind]; rfl
  | nil => rfl
theorem ndText_len (n : Nd) : (ndText n).length ≤ 169 := by
  cases n with
  | leaf x => show (leafBytes x).length ≤ _; rw [leafBytes_len]; omega
  | inner x => show (innerBytes x.l x.r).length ≤ _; rw [innerBytes_len]; omega
  | nil => show 0 ≤ _; omega
/-- The node over an item and the one beside it. -/
def upN (x y : Item) : Inner := if lt y.bits x.bits = true then ⟨y, x⟩ else ⟨x, y⟩
def inI (n : Inner) : Item := innerItem n.l n.r
def upBad (x : Item) (n : Inner) (lab : Lab) : Bool := !hasI (inI n) lab || (bt lab (com n.l.bits n.r.bits) != bt x.bits (com n.l.bits n.r.bits))
def upE (x y : Item) (lab : Lab) : Int := if pairErr (upN x y).l (upN x y).r ≠ 0 then pairErr (upN x y).l (upN x y).r else if upBad x (upN x y) lab = true then 11 else 0
theorem inI_good (n : Inner) : goodB (inI n).len (inI n).bits = true := good_cut _ _ (com_le _ _)
theorem proof_up_eq (x y : Item) (lab : Lab) : proof_up x y lab = some (upN x y, upE x y lab) := by
  have body : ∀ n : Inner, ((node_Check (Nd.inner n)).bind fun t23 => (if (t23 != (0 : Int)) = true then some (n, t23) else ((node_Inner_Item n).bind fun t32 => (((bits_Prefix_Has (⟨t32.len, t32.bits⟩ : Pfx) lab).bind fun t43 => (if (!t43) = true then some true else ((bits_Bit lab t32.len).bind fun t53 => ((bits_Bit x.bits t32.len).bind fun t58 => some (t53 != t58))))).bind fun b42 => (if b42 = true then some (n, (11 : Int)) else some (n, (0 : Int))))))) =
      some (n, if pairErr n.l n.r ≠ 0 then pairErr n.l n.r else if upBad x n lab = true then 11 else 0) := fun n => by
    rw [node_Check_inner, some_bind]
    by_cases h : pairErr n.l n.r = 0
    · have h0 : (pairErr n.l n.r != 0) = false := by simp [h]
      rw [h0, if_neg (by simp), node_Inner_Item_eq, some_bind, bits_Has_eq, some_bind]
      simp only
      rw [show hasB (innerItem n.l n.r).len (innerItem n.l n.r).bits lab = hasI (inI n) lab from rfl, show (innerItem n.l n.r).len = ((com n.l.bits n.r.bits : Nat) : Int) from rfl, bits_Bit_eq, bits_Bit_eq, bitI_nat, bitI_nat]
      rw [show (if pairErr n.l n.r ≠ 0 then pairErr n.l n.r else if upBad x n lab = true then (11 : Int) else 0) = if upBad x n lab = true then 11 else 0 from if_neg (by simp [h])]
      unfold upBad
      cases hasI (inI n) lab with
      | false => simp [some_bind]
      | true =>
        simp only [Bool.not_true, Bool.false_eq_true, if_false, some_bind, Bool.false_or]
        rw [b01_ne]
        cases (bt lab (com n.l.bits n.r.bits) != bt x.bits (com n.l.bits n.r.bits)) <;> rfl
    · have h0 : (pairErr n.l n.r != 0) = true := by simpa using h
      rw [h0, if_pos rfl, if_pos h]
  unfold proof_up upE upN
  rw [bits_Order_eq, some_bind]
  cases hl : lt y.bits x.bits with
  | true =>
    rw [dec_t ((ord_pos _ _).2 hl), if_pos rfl, body]
    rfl
  | false =>
    have : ¬ 0 < ord x.bits y.bits := fun q => by rw [(ord_pos _ _).1 q] at hl; cases hl
    rw [dec_f this, if_neg (by simp), body]
    rfl

/-- Up the way: an error's number, or the nodes and the last one's item. -/
def ups (lab : Lab) : List Nd → Item → List Item → Int ⊕ (List Nd × Item)
  | acc, x, [] => .inr (acc, x)
  | acc, x, y :: r => if upE x y lab ≠ 0 then .inl (upE x y lab) else ups lab (acc ++ [.inner (upN x y)]) (inI (upN x y)) r
def upsN (s : Int ⊕ (List Nd × Item)) : List Nd × Int := match s with | .inl e => ([], e) | .inr (a, _) => (a, 0)
theorem upsN_val (lab : Lab) (acc : List Nd) (x : Item) (r : List Item) : ∀ e, ups lab acc x r = .inl e → e ≠ 0 := by
  induction r generalizing acc x with
  | nil => intro e h; cases h
  | cons y r ih =>
    intro e h
    unfold ups at h
    split at h
    · rename_i hne; cases h; exact hne
    · exact ih _ _ e h
/-- The nodes of a proof's way. -/
def nodesS (p : Proof) (lab : Lab) : List Nd × Int :=
  if 256 < p.path.length then ([], 2)
  else if p.end_ = 0 then (if 0 < p.path.length then ([], 3) else ([], 0))
  else if p.end_ = 1 then (if leafErr p.leaf ≠ 0 then ([], leafErr p.leaf) else upsN (ups lab [.leaf p.leaf] (leafItem p.leaf) p.path))
  else if p.end_ = 2 then (if pairErr p.a p.b ≠ 0 then ([], pairErr p.a p.b) else if hasI (innerItem p.a p.b) lab = true then ([], 11) else upsN (ups lab [.inner ⟨p.a, p.b⟩] (innerItem p.a p.b) p.path))
  else ([], 1)
theorem nodes_s12 : proof_Proof_Nodes_s2 = proof_Proof_Nodes_s1 := rfl
theorem nodes_loop (p : Proof) (lab : Lab) (hp : p.path.length ≤ 1000) (n : Nd) (x : Item) :
    ∃ b, iter (proof_Proof_Nodes_s1 p lab) (0, [n], x.len, x.bits, x.sum, x.at_) = some b ∧ (match b with | .inl r₀ => some r₀ | .inr (x61, x62, x64, x65, x66, x67) => some (x62, (0 : Int))) = some (upsN (ups lab [n] x p.path)) := by
  have := iter_list (step := proof_Proof_Nodes_s1 p lab) (fun k (s : List Nd × Item) => ((k : Int), s.1, s.2.len, s.2.bits, s.2.sum, s.2.at_)) p.path (fun pre s => s.1.length ≤ pre.length + 1)
    (fun pre r s => match ups lab s.1 s.2 r with | .inl e => (.inl ([], e) : (List Nd × Int) ⊕ (Int × (List Nd) × Int × Lab × Lab × Int)) | .inr (a, y) => .inr ((p.path.length : Int), a, y.len, y.bits, y.sum, y.at_)) (fun s hI => ?_) (fun pre y r s e hI => ?_) p.path [] ([n], x) rfl (by simp)
  · refine ⟨_, this, ?_⟩
    simp only
    cases ups lab [n] x p.path with
    | inl e => rfl
    | inr a => rfl
  · simp only [proof_Proof_Nodes_s1]
    rw [dec_f (by simp [lenI]), if_neg (by simp)]
    rfl
  · have h1 : (pre.length : Int) < lenI p.path := by simp [e, lenI]; omega
    have h2 : pre.length < p.path.length := by simp [e]
    have hy : getI p.path (pre.length : Int) = y := by rw [e, getI_mid]
    simp only [proof_Proof_Nodes_s1, dec_t h1, if_true, hy]
    rw [req_t (by omega), proof_up_eq, some_bind]
    simp only
    by_cases hz : upE s.2 y lab = 0
    · left
      refine ⟨(s.1 ++ [Nd.inner (upN s.2 y)], inI (upN s.2 y)), by simp; omega, ?_, ?_⟩
      · have h0 : (upE s.2 y lab != 0) = false := by simp [hz]
        rw [show (⟨s.2.len, s.2.bits, s.2.sum, s.2.at_⟩ : Item) = s.2 from rfl, h0, if_neg (by simp), req_t (by simp [LIM]; omega), node_Inner_Item_eq, some_bind, wrap_id (by omega)]
        rfl
      · rw [show ups lab s.1 s.2 (y :: r) = ups lab (s.1 ++ [Nd.inner (upN s.2 y)]) (inI (upN s.2 y)) r by rw [ups, if_neg (by simp [hz])]]
    · right
      have h0 : (upE s.2 y lab != 0) = true := by simpa using hz
      rw [show (⟨s.2.len, s.2.bits, s.2.sum, s.2.at_⟩ : Item) = s.2 from rfl, h0, if_pos rfl]
      rw [show ups lab s.1 s.2 (y :: r) = .inl (upE s.2 y lab) by rw [ups, if_pos hz]]
theorem proof_Nodes_eq (p : Proof) (lab : Lab) (hp : p.path.length ≤ 1000) : proof_Proof_Nodes p lab = some (nodesS p lab) := by
  unfold proof_Proof_Nodes nodesS
  by_cases h256 : 256 < p.path.length
  · rw [dec_t (by rw [lenI]; omega), if_pos rfl, if_pos h256]
  · rw [dec_f (by rw [lenI]; omega), if_neg (by simp), if_neg h256]
    by_cases e0 : p.end_ = 0
    · rw [e0]
      simp only [beq_self_eq_true, if_true]
      by_cases hn : 0 < p.path.length
      · rw [dec_t (by rw [lenI]; omega), if_pos rfl, if_pos hn]
      · rw [dec_f (by rw [lenI]; omega), if_neg (by simp), if_neg hn]
    · rw [show (p.end_ == 0) = false by simpa using e0, if_neg (by simp), if_neg e0]
      by_cases e1 : p.end_ = 1
      · rw [e1]
        simp only [beq_self_eq_true, if_true]
        rw [node_Check_leaf, some_bind]
        by_cases hz : leafErr p.leaf = 0
        · have h0 : (leafErr p.leaf != 0) = false := by simp [hz]
          obtain ⟨b, h1, h2⟩ := nodes_loop p lab hp (.leaf p.leaf) (leafItem p.leaf)
          rw [h0, if_neg (by simp), if_neg (by simp [hz]), req_t (by simp [LIM]), node_Leaf_Item_eq, some_bind, List.nil_append, h1, some_bind]
          exact h2
        · have h0 : (leafErr p.leaf != 0) = true := by simpa using hz
          rw [h0, if_pos rfl, if_pos hz]
      · rw [show (p.end_ == 1) = false by simpa using e1, if_neg (by simp), if_neg e1]
        by_cases e2 : p.end_ = 2
        · rw [e2]
          simp only [beq_self_eq_true, if_true]
          rw [node_Check_inner, some_bind]
          simp only
          by_cases hz : pairErr p.a p.b = 0
          · have h0 : (pairErr p.a p.b != 0) = false := by simp [hz]
            obtain ⟨b, h1, h2⟩ := nodes_loop p lab hp (.inner ⟨p.a, p.b⟩) (innerItem p.a p.b)
            rw [h0, if_neg (by simp), if_neg (by simp [hz]), req_t (by simp [LIM]), node_Inner_Item_eq, some_bind, bits_Has_eq, some_bind]
            simp only
            rw [show hasB (innerItem p.a p.b).len (innerItem p.a p.b).bits lab = hasI (innerItem p.a p.b) lab from rfl]
            cases hasI (innerItem p.a p.b) lab with
            | true => rfl
            | false =>
              simp only [Bool.false_eq_true, if_false]
              rw [nodes_s12, List.nil_append, h1, some_bind]
              exact h2
          · have h0 : (pairErr p.a p.b != 0) = true := by simpa using hz
            rw [h0, if_pos rfl, if_pos hz]
        · rw [show (p.end_ == 2) = false by simpa using e2, if_neg (by simp), if_neg e2]

/-! ### the document's -/
def tellS (r : List Nd × Int) : List Str × List Item × Int := (r.1.map ndText, r.1.map ndItem, r.2)
theorem nodes2_s12 : r18_Nodes_s2 = r18_Nodes_s1 := rfl
theorem r18_nodes_loop (p : Proof) (lab : Lab) (hp : p.path.length ≤ 1000) (n : Nd) :
    ∃ b, iter (r18_Nodes_s1 p lab) (0, [ndItem n], [ndText n]) = some b ∧ (match b with | .inl r₀ => some r₀ | .inr (x66, x67, x69) => some (x69, x67, (0 : Int))) = some (tellS (upsN (ups lab [n] (ndItem n) p.path))) := by
  have := iter_list (step := r18_Nodes_s1 p lab) (fun k (s : List Nd × Item) => ((k : Int), s.1.map ndItem, s.1.map ndText)) p.path (fun pre s => s.1.length ≤ pre.length + 1 ∧ ∃ m w, s.1 = m ++ [w] ∧ s.2 = ndItem w)
    (fun pre r s => match ups lab s.1 s.2 r with | .inl e => (.inl ([], [], e) : ((List Str) × (List Item) × Int) ⊕ (Int × (List Item) × (List Str))) | .inr (a, y) => .inr ((p.path.length : Int), a.map ndItem, a.map ndText)) (fun s hI => ?_) (fun pre y r s e hI => ?_) p.path [] ([n], ndItem n) rfl ⟨by simp, [], n, rfl, rfl⟩
  · refine ⟨_, this, ?_⟩
    simp only
    cases ups lab [n] (ndItem n) p.path with
    | inl e => rfl
    | inr a => rfl
  · simp only [r18_Nodes_s1]
    rw [dec_f (by simp [lenI]), if_neg (by simp)]
    rfl
  · obtain ⟨hI1, m, w, hm, hw⟩ := hI
    have h1 : (pre.length : Int) < lenI p.path := by simp [e, lenI]; omega
    have h2 : pre.length < p.path.length := by simp [e]
    have hy : getI p.path (pre.length : Int) = y := by rw [e, getI_mid]
    have hlast : getI (s.1.map ndItem) (lenI (s.1.map ndItem) - 1) = s.2 := by
      rw [hm, hw, List.map_append, List.map_singleton]
      have := last_mid (m.map ndItem) (ndItem w) []
      simp only [List.append_nil] at this
      rw [lenI]; exact this
    have hlen : lenI (s.1.map ndItem) = (s.1.length : Int) := by simp [lenI]
    have hpos : 0 < s.1.length := by rw [hm]; simp
    have body : ∀ a b : Item, ((r15_Check a b).bind fun t119 => (if (t119 != (0 : Int)) = true then some (.inr (.inl ([], [], t119))) else ((r16_Inner a b).bind fun t128 => (((r18_has t128 lab).bind fun t139 => (if (!t139) = true then some true else ((r01_Bit lab t128.len).bind fun t151 => ((r01_Bit (s.2.bits) t128.len).bind fun t157 => some (t151 != t157))))).bind fun b138 => (if b138 = true then some (.inr (.inl ([], [], (11 : Int)))) else ((r15_InnerBytes a b).bind fun t183 => ((req (List.length (s.1.map ndText) + List.length ([t183] : List Str) ≤ LIM)).bind fun _ => ((req (List.length (s.1.map ndItem) + List.length ([t128] : List Item) ≤ LIM)).bind fun _ => some (.inl ((wrap64 ((pre.length : Int) + (1 : Int))), (s.1.map ndItem ++ ([t128] : List Item)), (s.1.map ndText ++ ([t183] : List Str)))))))))))) =
        (if pairErr a b ≠ 0 then some (.inr (.inl ([], [], pairErr a b))) else if upBad s.2 ⟨a, b⟩ lab = true then some (.inr (.inl ([], [], 11))) else some (.inl (((pre.length + 1 : Nat) : Int), (s.1 ++ [Nd.inner ⟨a, b⟩]).map ndItem, (s.1 ++ [Nd.inner ⟨a, b⟩]).map ndText)) : Option ((Int × (List Item) × (List Str)) ⊕ ((List Str) × (List Item) × Int ⊕ (Int × (List Item) × (List Str))))) := fun a b => by
      rw [r15_Check_eq, some_bind]
      by_cases h : pairErr a b = 0
      · have h0 : (pairErr a b != 0) = false := by simp [h]
        rw [h0, if_neg (by simp), r16_Inner_eq, some_bind, show r18_has (innerItem a b) lab = some (hasI (innerItem a b) lab) from r18_has_good (inI_good ⟨a, b⟩) lab, some_bind]
        have hR : ∀ X : Option ((Int × (List Item) × (List Str)) ⊕ ((List Str) × (List Item) × Int ⊕ (Int × (List Item) × (List Str)))), (if pairErr a b ≠ 0 then some (.inr (.inl ([], [], pairErr a b))) else X) = X := fun X => if_neg (by simp [h])
        rw [hR]
        rw [show (innerItem a b).len = ((com a.bits b.bits : Nat) : Int) from rfl, r01_Bit_eq, r01_Bit_eq, bitI_nat, bitI_nat]
        have hbad : upBad s.2 ⟨a, b⟩ lab = (!hasI (innerItem a b) lab || (bt lab (com a.bits b.bits) != bt s.2.bits (com a.bits b.bits))) := rfl
        rw [hbad]
        have fin : ((r15_InnerBytes a b).bind fun t183 => ((req (List.length (s.1.map ndText) + List.length ([t183] : List Str) ≤ LIM)).bind fun _ => ((req (List.length (s.1.map ndItem) + List.length ([innerItem a b] : List Item) ≤ LIM)).bind fun _ => (some (.inl ((wrap64 ((pre.length : Int) + (1 : Int))), (s.1.map ndItem ++ ([innerItem a b] : List Item)), (s.1.map ndText ++ ([t183] : List Str)))) : Option ((Int × (List Item) × (List Str)) ⊕ ((List Str) × (List Item) × Int ⊕ (Int × (List Item) × (List Str)))))))) = some (.inl (((pre.length + 1 : Nat) : Int), (s.1 ++ [Nd.inner ⟨a, b⟩]).map ndItem, (s.1 ++ [Nd.inner ⟨a, b⟩]).map ndText)) := by
          rw [r15_InnerBytes_eq, some_bind, req_t (by simp [LIM]; omega), req_t (by simp [LIM]; omega), wrap_id (by omega), List.map_append, List.map_append]
          rfl
        cases hasI (innerItem a b) lab with
        | false => rfl
        | true =>
          simp only [Bool.not_true, Bool.false_eq_true, if_false, some_bind, Bool.false_or]
          rw [b01_ne]
          cases (bt lab (com a.bits b.bits) != bt s.2.bits (com a.bits b.bits)) with
          | true => rfl
          | false => simp only [Bool.false_eq_true, if_false]; exact fin
      · have h0 : (pairErr a b != 0) = true := by simpa using h
        rw [h0, if_pos rfl, if_pos h]
    have hstep : r18_Nodes_s1 p lab ((pre.length : Int), s.1.map ndItem, s.1.map ndText) =
        (if pairErr (upN s.2 y).l (upN s.2 y).r ≠ 0 then some (.inr (.inl ([], [], pairErr (upN s.2 y).l (upN s.2 y).r))) else if upBad s.2 (upN s.2 y) lab = true then some (.inr (.inl ([], [], 11))) else some (.inl (((pre.length + 1 : Nat) : Int), (s.1 ++ [Nd.inner (upN s.2 y)]).map ndItem, (s.1 ++ [Nd.inner (upN s.2 y)]).map ndText))) := by
      simp only [r18_Nodes_s1, dec_t h1, if_true, hy]
      rw [req_t (by omega), wrap_id (n := lenI (s.1.map ndItem) - 1) (by rw [hlen]; omega), req_t (by rw [hlen]; omega), hlast, r01_Order_eq, some_bind, body, body]
      unfold upN
      cases hl : lt y.bits s.2.bits with
      | true => rw [(ord_1 _ _).2 hl]; simp only [beq_self_eq_true, if_true]
      | false =>
        have : (ord s.2.bits y.bits == 1) = false := by
          have : ¬ ord s.2.bits y.bits = 1 := fun q => by rw [(ord_1 _ _).1 q] at hl; cases hl
          simpa using this
        rw [this]; simp only [Bool.false_eq_true, if_false]
    by_cases hz : upE s.2 y lab = 0
    · left
      refine ⟨(s.1 ++ [Nd.inner (upN s.2 y)], inI (upN s.2 y)), ⟨by simp; omega, s.1, _, rfl, rfl⟩, ?_, ?_⟩
      · rw [hstep]
        unfold upE at hz
        split at hz
        · rename_i q; exact absurd hz q
        · rename_i q
          rw [if_neg q]
          split at hz
          · cases hz
          · rename_i q2; rw [if_neg q2]
      · rw [show ups lab s.1 s.2 (y :: r) = ups lab (s.1 ++ [Nd.inner (upN s.2 y)]) (inI (upN s.2 y)) r by rw [ups, if_neg (by simp [hz])]]
    · right
      rw [show ups lab s.1 s.2 (y :: r) = .inl (upE s.2 y lab) by rw [ups, if_pos hz], hstep]
      unfold upE at hz ⊢
      split
      · rfl
      · rename_i q
        rw [if_neg q] at hz
        split
        · rfl
        · rename_i q2; rw [if_neg q2] at hz; exact absurd rfl hz
theorem r18_Nodes_eq (p : Proof) (lab : Lab) (hp : p.path.length ≤ 1000) : r18_Nodes p lab = some (tellS (nodesS p lab)) := by
  unfold r18_Nodes nodesS
  by_cases h256 : 256 < p.path.length
  · rw [dec_t (by rw [lenI]; omega), if_pos rfl, if_pos h256]; rfl
  · rw [dec_f (by rw [lenI]; omega), if_neg (by simp), if_neg h256]
    by_cases e0 : p.end_ = 0
    · rw [e0]
      simp only [beq_self_eq_true, if_true]
      by_cases hn : 0 < p.path.length
      · rw [dec_t (by rw [lenI]; omega), if_pos rfl, if_pos hn]; rfl
      · rw [dec_f (by rw [lenI]; omega), if_neg (by simp), if_neg hn]; rfl
    · rw [show (p.end_ == 0) = false by simpa using e0, if_neg (by simp), if_neg e0]
      by_cases e1 : p.end_ = 1
      · rw [e1]
        simp only [beq_self_eq_true, if_true]
        by_cases hz : leafErr p.leaf = 0
        · have hz' := hz
          unfold leafErr at hz'
          split at hz'
          · cases hz'
          · rename_i hne
            obtain ⟨b, h1, h2⟩ := r18_nodes_loop p lab hp (.leaf p.leaf)
            rw [dec_f (by omega), if_neg (by simp), some_bind, dec_f (by omega), if_neg (by simp), if_neg (by simp [hz])]
            rw [r15_LeafBytes_eq, some_bind, req_t (by simp [LIM]), r16_Leaf_eq, some_bind, req_t (by simp [LIM]), List.nil_append, List.nil_append, show [leafItem p.leaf] = [ndItem (.leaf p.leaf)] from rfl, show [leafBytes p.leaf] = [ndText (.leaf p.leaf)] from rfl, h1, some_bind]
            exact h2
        · have hz1 : leafErr p.leaf = 1 := by unfold leafErr at hz ⊢; split at hz <;> simp_all
          rw [if_pos hz, hz1]
          unfold leafErr at hz1
          split at hz1
          · rename_i hne
            by_cases c : p.leaf.at_ < 0
            · rw [dec_t c, if_pos rfl, some_bind, if_pos rfl]; rfl
            · rw [dec_f c, if_neg (by simp), some_bind, dec_t (by omega), if_pos rfl]; rfl
          · cases hz1
      · rw [show (p.end_ == 1) = false by simpa using e1, if_neg (by simp), if_neg e1]
        by_cases e2 : p.end_ = 2
        · rw [e2]
          simp only [beq_self_eq_true, if_true]
          rw [r15_Check_eq, some_bind]
          by_cases hz : pairErr p.a p.b = 0
          · have h0 : (pairErr p.a p.b != 0) = false := by simp [hz]
            obtain ⟨b, h1, h2⟩ := r18_nodes_loop p lab hp (.inner ⟨p.a, p.b⟩)
            rw [h0, if_neg (by simp), if_neg (by simp [hz]), r15_InnerBytes_eq, some_bind, req_t (by simp [LIM]), r16_Inner_eq, some_bind, req_t (by simp [LIM]), req_t (by simp [lenI]), List.nil_append, List.nil_append]
            rw [show getI [innerItem p.a p.b] 0 = innerItem p.a p.b from rfl, show r18_has (innerItem p.a p.b) lab = some (hasI (innerItem p.a p.b) lab) from r18_has_good (inI_good ⟨p.a, p.b⟩) lab, some_bind]
            cases hasI (innerItem p.a p.b) lab with
            | true => rfl
            | false =>
              simp only [Bool.false_eq_true, if_false]
              rw [nodes2_s12, show [innerItem p.a p.b] = [ndItem (.inner ⟨p.a, p.b⟩)] from rfl, show [innerBytes p.a p.b] = [ndText (.inner ⟨p.a, p.b⟩)] from rfl, h1, some_bind]
              exact h2
          · have h0 : (pairErr p.a p.b != 0) = true := by simpa using hz
            rw [h0, if_pos rfl, if_pos hz]; rfl
        · rw [show (p.end_ == 2) = false by simpa using e2, if_neg (by simp), if_neg e2]; rfl

/-! ### what a proof says -/
def lastSum (l : List Nd) : Lab := match l.getLast? with | some n => (ndItem n).sum | none => emptyS
def checkP (top lab : Lab) (p : Proof) : Leaf × Bool × Int :=
  if (nodesS p lab).2 ≠ 0 then (zLf, false, (nodesS p lab).2)
  else if lastSum (nodesS p lab).1 ≠ top then (zLf, false, 11)
  else if p.end_ = 1 ∧ p.leaf.label = lab then (p.leaf, true, 0) else (zLf, false, 0)
theorem checkP_ok {top lab : Lab} {p : Proof} (h : (nodesS p lab).2 = 0) : checkP top lab p = if lastSum (nodesS p lab).1 ≠ top then (zLf, false, 11)
  else if p.end_ = 1 ∧ p.leaf.label = lab then (p.leaf, true, 0) else (zLf, false, 0) := by unfold checkP; exact if_neg (by simp [h])
theorem checkP_no {top lab : Lab} {p : Proof} (h : (nodesS p lab).2 ≠ 0) : checkP top lab p = (zLf, false, (nodesS p lab).2) := by unfold checkP; exact if_pos h
def NoNil (l : List Nd) : Prop := ∀ n ∈ l, n ≠ .nil
theorem ups_nonil (lab : Lab) : ∀ (r : List Item) (acc : List Nd) (x : Item), NoNil acc → NoNil (upsN (ups lab acc x r)).1
  | [], acc, x, h => h
  | y :: r, acc, x, h => by
    unfold ups
    split
    · intro n hn; simp [upsN] at hn
    · refine ups_nonil lab r _ _ fun n hn => ?_
      rcases List.mem_append.1 hn with hn | hn
      · exact h n hn
      · have := List.mem_singleton.1 hn; subst this; exact fun q => by cases q
theorem nodes_nonil (p : Proof) (lab : Lab) : NoNil (nodesS p lab).1 := by
  have hnil : NoNil [] := fun n hn => by simp at hn
  unfold nodesS
  split
  · exact hnil
  · split
    · split <;> exact hnil
    · split
      · split
        · exact hnil
        · exact ups_nonil _ _ _ _ fun n hn => by have := List.mem_singleton.1 hn; subst this; exact fun q => by cases q
      · split
        · split
          · exact hnil
          · split
            · exact hnil
            · exact ups_nonil _ _ _ _ fun n hn => by have := List.mem_singleton.1 hn; subst this; exact fun q => by cases q
        · exact hnil
theorem ups_length (lab : Lab) : ∀ (r : List Item) (acc : List Nd) (x : Item), (upsN (ups lab acc x r)).1.length ≤ acc.length + r.length
  | [], acc, x => by simp [ups, upsN]
  | y :: r, acc, x => by
    unfold ups
    split
    · simp [upsN]
    · have := ups_length lab r (acc ++ [.inner (upN x y)]) (inI (upN x y))
      simp at this ⊢; omega
theorem nodes_length (p : Proof) (lab : Lab) : (nodesS p lab).1.length ≤ 257 := by
  unfold nodesS
  split
  · simp
  · split
    · split <;> simp
    · split
      · split
        · simp
        · have := ups_length lab p.path [.leaf p.leaf] (leafItem p.leaf); simp at this; omega
      · split
        · split
          · simp
          · split
            · simp
            · have := ups_length lab p.path [.inner ⟨p.a, p.b⟩] (innerItem p.a p.b); simp at this; omega
        · simp
theorem say_eq (top lab s : Lab) (p : Proof) : (if (!(s == top)) = true then some ((⟨zL, zL, 0⟩ : Leaf), false, (11 : Int)) else ((if (p.end_ == (1 : Int)) = true then some (p.leaf.label == lab) else some false).bind fun b53 => (if b53 = true then some (p.leaf, true, (0 : Int)) else some ((⟨zL, zL, 0⟩ : Leaf), false, (0 : Int))))) =
    some (if s ≠ top then (zLf, false, 11) else if p.end_ = 1 ∧ p.leaf.label = lab then (p.leaf, true, 0) else (zLf, false, 0)) := by
  by_cases h : s = top
  · by_cases h1 : p.end_ = 1
    · by_cases h2 : p.leaf.label = lab <;> simp [h, h1, h2, zLf]
    · simp [h, h1, zLf]
  · simp [h, zLf]
theorem proof_Check_eq (top lab : Lab) (p : Proof) (hp : p.path.length ≤ 1000) : proof_Check top lab p = some (checkP top lab p) := by
  unfold proof_Check
  rw [proof_Nodes_eq p lab hp, some_bind]
  by_cases h : (nodesS p lab).2 = 0
  · rw [show ((nodesS p lab).2 != 0) = false by simp [h], if_neg (by simp), checkP_ok h, node_Empty_eq, some_bind]
    have hnn := nodes_nonil p lab
    have hlen := nodes_length p lab
    generalize (nodesS p lab).1 = l at hnn hlen
    rcases List.eq_nil_or_concat l with rfl | ⟨m, w, rfl⟩
    · rw [dec_f (by simp [lenI]), if_neg (by simp), say_eq]
      rfl
    · rw [List.concat_eq_append] at *
      rw [dec_t (by rw [lenI, List.length_append, List.length_singleton]; omega), if_pos rfl, wrap_id (by rw [lenI]; omega), req_t (by rw [lenI, List.length_append, List.length_singleton]; omega)]
      have hw : getI (m ++ [w]) (lenI (m ++ [w]) - 1) = w := by
        have := last_mid m w []
        simp only [List.append_nil] at this
        rw [lenI]; exact this
      have hls : lastSum (m ++ [w]) = (ndItem w).sum := by unfold lastSum; rw [List.getLast?_concat]
      rw [hw, hls]
      cases w with
      | leaf x => simp only; rw [node_Leaf_Item_eq, some_bind, say_eq]; rfl
      | inner x => simp only; rw [node_Inner_Item_eq, some_bind, say_eq]; rfl
      | nil => exact absurd rfl (hnn .nil (by simp))
  · rw [show ((nodesS p lab).2 != 0) = true by simpa using h, if_pos rfl, checkP_no h]; rfl
theorem r18_Check_eq (top lab : Lab) (p : Proof) (hp : p.path.length ≤ 1000) : r18_Check top lab p = some (checkP top lab p) := by
  unfold r18_Check
  rw [r18_Nodes_eq p lab hp, some_bind]
  unfold tellS
  dsimp only
  by_cases h : (nodesS p lab).2 = 0
  · rw [show ((nodesS p lab).2 != 0) = false by simp [h], if_neg (by simp), checkP_ok h, r03_Sum_eq _ (by simp), some_bind]
    have hlen := nodes_length p lab
    generalize (nodesS p lab).1 = l at hlen
    rcases List.eq_nil_or_concat l with rfl | ⟨m, w, rfl⟩
    · rw [dec_f (by simp [lenI]), if_neg (by simp), say_eq]
      rfl
    · rw [List.concat_eq_append] at *
      have hml : lenI (List.map ndItem (m ++ [w])) = ((m.length + 1 : Nat) : Int) := by simp [lenI]
      have hlm : m.length + 1 ≤ 257 := by simpa using hlen
      rw [dec_t (by rw [hml]; omega), if_pos rfl, wrap_id (by rw [hml]; omega), req_t (by rw [hml]; omega)]
      have hw : getI (List.map ndItem (m ++ [w])) (lenI (List.map ndItem (m ++ [w])) - 1) = ndItem w := by
        have := last_mid (m.map ndItem) (ndItem w) []
        simp only [List.append_nil] at this
        rw [List.map_append, List.map_singleton, lenI]; exact this
      have hls : lastSum (m ++ [w]) = (ndItem w).sum := by unfold lastSum; rw [List.getLast?_concat]
      rw [hw, hls, say_eq]
  · rw [show ((nodesS p lab).2 != 0) = true by simpa using h, if_pos rfl, checkP_no h]; rfl
end
end Go.Ch
end
section
/- What is made is taken; what two ways have unlike. -/
set_option linter.unusedVariables false
set_option linter.unusedSimpArgs false
namespace Go.Ch
open Go.RowKit (wrap64)
noncomputable section

/-! ### the halves of a tree of leaves -/
theorem fork_lo {l : List Leaf} (h : Rise Leaf.label l) (h2 : 2 ≤ l.length) : (2 ≤ (loL l).length → fork Leaf.label l < fork Leaf.label (loL l)) ∧ (2 ≤ (hiL l).length → fork Leaf.label l < fork Leaf.label (hiL l)) := by
  have p := h.parts h2
  have hh := h.halves (fork Leaf.label l)
  constructor
  · intro h3
    have pa := hh.1.parts h3
    obtain ⟨c, rc, ec⟩ := first_of pa.lon
    obtain ⟨d, rd, ed⟩ := first_of pa.hin
    have hc : c ∈ lo Leaf.label (loL l) (fork Leaf.label (loL l)) := by unfold loL; rw [ec]; simp
    have hd : d ∈ hi Leaf.label (loL l) (fork Leaf.label (loL l)) := by unfold loL; rw [ed]; simp
    have hc2 : c ∈ loL l := (List.takeWhile_sublist _).subset hc
    have hd2 : d ∈ loL l := (List.dropWhile_sublist _).subset hd
    rcases Nat.lt_trichotomy (fork Leaf.label l) (fork Leaf.label (loL l)) with w | w | w
    · exact w
    · have := pa.hi1 d hd
      rw [show fork Leaf.label (lo Leaf.label l (fork Leaf.label l)) = fork Leaf.label (loL l) from rfl, ← w, p.lo0 d hd2] at this; cases this
    · have := p.same c ((List.takeWhile_sublist _).subset hc2) d ((List.takeWhile_sublist _).subset hd2) _ w
      have e1 := pa.lo0 c hc
      have e2 := pa.hi1 d hd
      rw [show fork Leaf.label (lo Leaf.label l (fork Leaf.label l)) = fork Leaf.label (loL l) from rfl] at e1 e2
      rw [e1, e2] at this; cases this
  · intro h3
    have pa := hh.2.parts h3
    obtain ⟨c, rc, ec⟩ := first_of pa.lon
    obtain ⟨d, rd, ed⟩ := first_of pa.hin
    have hc : c ∈ lo Leaf.label (hiL l) (fork Leaf.label (hiL l)) := by unfold hiL; rw [ec]; simp
    have hd : d ∈ hi Leaf.label (hiL l) (fork Leaf.label (hiL l)) := by unfold hiL; rw [ed]; simp
    have hc2 : c ∈ hiL l := (List.takeWhile_sublist _).subset hc
    have hd2 : d ∈ hiL l := (List.dropWhile_sublist _).subset hd
    rcases Nat.lt_trichotomy (fork Leaf.label l) (fork Leaf.label (hiL l)) with w | w | w
    · exact w
    · have := pa.lo0 c hc
      rw [show fork Leaf.label (hi Leaf.label l (fork Leaf.label l)) = fork Leaf.label (hiL l) from rfl, ← w, p.hi1 c hc2] at this; cases this
    · have := p.same c ((List.dropWhile_sublist _).subset hc2) d ((List.dropWhile_sublist _).subset hd2) _ w
      have e1 := pa.lo0 c hc
      have e2 := pa.hi1 d hd
      rw [show fork Leaf.label (hi Leaf.label l (fork Leaf.label l)) = fork Leaf.label (hiL l) from rfl] at e1 e2
      rw [e1, e2] at this; cases this
def leafOk (x : Leaf) : Prop := 0 ≤ x.at_ ∧ x.at_ ≤ 1073741824
theorem leafErr_ok {x : Leaf} (h : leafOk x) : leafErr x = 0 := by unfold leafErr leafOk at *; rw [if_neg (by omega)]
theorem tree_at : ∀ (n : Nat) (l : List Leaf), l.length ≤ n → Rise Leaf.label l → l ≠ [] → (∀ x ∈ l, leafOk x) → 0 ≤ (tree (lit l)).at_ ∧ (tree (lit l)).at_ ≤ 1073741824 := by
  intro n
  induction n with
  | zero => intro l hl _ hn; exact absurd (List.length_eq_zero_iff.1 (by omega)) hn
  | succ n ih =>
    intro l hl h hn ho
    by_cases h2 : 2 ≤ l.length
    · obtain ⟨q1, q2, q3, q4, q5, q6⟩ := halvesL h h2
      have a := ih (loL l) (by omega) q5 q1 (fun x hx => ho x ((List.takeWhile_sublist _).subset hx))
      have b := ih (hiL l) (by omega) q6 q2 (fun x hx => ho x ((List.dropWhile_sublist _).subset hx))
      rw [tree_leaves h h2]
      show 0 ≤ max _ _ ∧ max _ _ ≤ _
      omega
    · obtain ⟨x, rfl⟩ := one_of hn h2
      rw [show lit [x] = [leafItem x] from rfl, tree_one]
      exact ho x (by simp)
theorem tree_ok {l : List Leaf} (h : Rise Leaf.label l) (hn : l ≠ []) (ho : ∀ x ∈ l, leafOk x) : itGood (tree (lit l)) = true := by
  have ha := tree_at l.length l (Nat.le_refl _) h hn ho
  unfold itGood
  rw [dec_t ha, Bool.and_true]
  by_cases h2 : 2 ≤ l.length
  · exact tree_good (lit_rise.1 h) (by rw [lit_len]; exact h2)
  · obtain ⟨x, rfl⟩ := one_of hn h2
    rw [show lit [x] = [leafItem x] from rfl, tree_one]
    unfold goodB leafItem
    simp [cut_full]
/-- Bits of a half's tree, up to where the whole parts. -/
theorem half_bits {l : List Leaf} (h : Rise Leaf.label l) (h2 : 2 ≤ l.length) : (∀ k, k < fork Leaf.label l → bt (tree (lit (loL l))).bits k = bt (tree (lit (hiL l))).bits k) ∧ bt (tree (lit (loL l))).bits (fork Leaf.label l) = false ∧ bt (tree (lit (hiL l))).bits (fork Leaf.label l) = true ∧
    (fork Leaf.label l : Int) < (tree (lit (loL l))).len ∧ (fork Leaf.label l : Int) < (tree (lit (hiL l))).len := by
  have p := h.parts h2
  obtain ⟨q1, q2, q3, q4, q5, q6⟩ := halvesL h h2
  obtain ⟨f1, f2⟩ := fork_lo h h2
  obtain ⟨a, ra, ea⟩ := first_of q1
  obtain ⟨b, rb, eb⟩ := first_of q2
  have hla : a ∈ loL l := by rw [ea]; simp
  have hlb : b ∈ hiL l := by rw [eb]; simp
  have ta := (tree_bits _ (lit (loL l)) (Nat.le_refl _) (lit_rise.1 q5) (by rw [Ne, lit_nil]; exact q1) (leafItem a) (List.mem_map_of_mem hla)).2
  have tb := (tree_bits _ (lit (hiL l)) (Nat.le_refl _) (lit_rise.1 q6) (by rw [Ne, lit_nil]; exact q2) (leafItem b) (List.mem_map_of_mem hlb)).2
  have ta' : ∀ k, k ≤ fork Leaf.label l → bt (tree (lit (loL l))).bits k = bt a.label k := fun k hk => ta k fun h3 => by rw [lit_len] at h3; rw [← lit_fork]; have := f1 h3; omega
  have tb' : ∀ k, k ≤ fork Leaf.label l → bt (tree (lit (hiL l))).bits k = bt b.label k := fun k hk => tb k fun h3 => by rw [lit_len] at h3; rw [← lit_fork]; have := f2 h3; omega
  refine ⟨fun k hk => ?_, ?_, ?_, ?_, ?_⟩
  · rw [ta' k (by omega), tb' k (by omega)]
    exact p.same a ((List.takeWhile_sublist _).subset hla) b ((List.dropWhile_sublist _).subset hlb) k hk
  · rw [ta' _ (Nat.le_refl _)]; exact p.lo0 a hla
  · rw [tb' _ (Nat.le_refl _)]; exact p.hi1 b hlb
  · by_cases h3 : 2 ≤ (loL l).length
    · rw [tree_lenL q5 h3]; have := f1 h3; omega
    · obtain ⟨x, e⟩ := one_of q1 h3
      rw [e, show lit [x] = [leafItem x] from rfl, tree_one]; have := p.lt; show _ < (256 : Int); omega
  · by_cases h3 : 2 ≤ (hiL l).length
    · rw [tree_lenL q6 h3]; have := f2 h3; omega
    · obtain ⟨x, e⟩ := one_of q2 h3
      rw [e, show lit [x] = [leafItem x] from rfl, tree_one]; have := p.lt; show _ < (256 : Int); omega
theorem half_com {l : List Leaf} (h : Rise Leaf.label l) (h2 : 2 ≤ l.length) : com (tree (lit (loL l))).bits (tree (lit (hiL l))).bits = fork Leaf.label l ∧ lt (tree (lit (loL l))).bits (tree (lit (hiL l))).bits = true := by
  obtain ⟨b1, b2, b3, _, _⟩ := half_bits h h2
  have p := (h.parts h2).lt
  exact ⟨com_eq (by omega) b1 (fun _ => by simp [b2, b3]), lt_of p b1 b2 b3⟩
theorem half_pair {l : List Leaf} (h : Rise Leaf.label l) (h2 : 2 ≤ l.length) (ho : ∀ x ∈ l, leafOk x) : pairErr (tree (lit (loL l))) (tree (lit (hiL l))) = 0 := by
  obtain ⟨q1, q2, q3, q4, q5, q6⟩ := halvesL h h2
  obtain ⟨_, _, _, l1, l2⟩ := half_bits h h2
  obtain ⟨c1, c2⟩ := half_com h h2
  unfold pairErr
  rw [tree_ok q5 q1 (fun x hx => ho x ((List.takeWhile_sublist _).subset hx)), tree_ok q6 q2 (fun x hx => ho x ((List.dropWhile_sublist _).subset hx)), c1, c2, dec_f (by omega), dec_f (by omega)]
  rfl

/-! ### what is made is taken -/
/-- The nodes of the way in a tree, the top first. -/
def realN (l : List Leaf) (lab : Lab) : List Nd :=
  if h : (loL l).length < l.length ∧ (hiL l).length < l.length ∧ 2 ≤ l.length then
    Nd.inner ⟨tree (lit (loL l)), tree (lit (hiL l))⟩ ::
      (if hasI (tree (lit l)) lab = false then [] else if bt lab (fork Leaf.label l) = true then realN (hiL l) lab else realN (loL l) lab)
  else (l.head?.elim [] fun x => [Nd.leaf x])
termination_by l.length
decreasing_by
  · exact h.2.1
  · exact h.1
theorem realN_two {l : List Leaf} (h : Rise Leaf.label l) (h2 : 2 ≤ l.length) (lab : Lab) : realN l lab = Nd.inner ⟨tree (lit (loL l)), tree (lit (hiL l))⟩ ::
      (if hasI (tree (lit l)) lab = false then [] else if bt lab (fork Leaf.label l) = true then realN (hiL l) lab else realN (loL l) lab) := by
  obtain ⟨_, _, q3, q4, _, _⟩ := halvesL h h2
  rw [realN, dif_pos ⟨q3, q4, h2⟩]
theorem realN_one (x : Leaf) (lab : Lab) : realN [x] lab = [Nd.leaf x] := by rw [realN, dif_neg (by simp)]; rfl
theorem realN_nil (lab : Lab) : realN [] lab = [] := by rw [realN, dif_neg (by simp)]; rfl
theorem ups_app (lab : Lab) : ∀ (r s : List Item) (acc : List Nd) (x : Item), ups lab acc x (r ++ s) = match ups lab acc x r with | .inl e => .inl e | .inr (a, y) => ups lab a y s
  | [], s, acc, x => rfl
  | y :: r, s, acc, x => by
    rw [List.cons_append, ups, ups]
    split
    · rfl
    · exact ups_app lab r s _ _
def startS (p : Proof) (lab : Lab) : Int ⊕ (Nd × Item) :=
  if p.end_ = 1 then (if leafErr p.leaf ≠ 0 then .inl (leafErr p.leaf) else .inr (.leaf p.leaf, leafItem p.leaf))
  else (if pairErr p.a p.b ≠ 0 then .inl (pairErr p.a p.b) else if hasI (innerItem p.a p.b) lab = true then .inl 11 else .inr (.inner ⟨p.a, p.b⟩, innerItem p.a p.b))
def runS (p : Proof) (lab : Lab) : Int ⊕ (List Nd × Item) := match startS p lab with | .inl e => .inl e | .inr (n, x) => ups lab [n] x p.path
theorem nodes_run (p : Proof) (lab : Lab) (he : p.end_ = 1 ∨ p.end_ = 2) (hp : p.path.length ≤ 256) : nodesS p lab = upsN (runS p lab) := by
  unfold nodesS runS startS
  have h256 : ¬ 256 < p.path.length := by omega
  rcases he with e | e
  · simp only [h256, e, if_false, if_true]
    by_cases hz : leafErr p.leaf = 0
    · simp [hz]
    · simp [hz, upsN]
  · simp only [h256, e, if_false, if_true]
    by_cases hz : pairErr p.a p.b = 0
    · simp only [hz]
      cases hasI (innerItem p.a p.b) lab <;> simp [upsN]
    · simp [hz, upsN]
theorem run_adds (p : Proof) (lab : Lab) (x : Item) : runS (p.adds [x]) lab = match runS p lab with | .inl e => .inl e | .inr (a, y) => ups lab a y [x] := by
  unfold runS
  have : startS (p.adds [x]) lab = startS p lab := rfl
  rw [this]
  cases startS p lab with
  | inl e => rfl
  | inr q => exact ups_app lab p.path [x] [q.1] q.2
theorem way_run (lab : Lab) : ∀ (n : Nat) (l : List Leaf), l.length ≤ n → Rise Leaf.label l → l ≠ [] → (∀ x ∈ l, leafOk x) →
    ((way l lab).end_ = 1 ∨ (way l lab).end_ = 2) ∧ (way l lab).path.length < l.length ∧ runS (way l lab) lab = .inr ((realN l lab).reverse, tree (lit l)) := by
  intro n
  induction n with
  | zero => intro l hl _ hn; exact absurd (List.length_eq_zero_iff.1 (by omega)) hn
  | succ n ih =>
    intro l hl h hn ho
    by_cases h2 : 2 ≤ l.length
    · obtain ⟨q1, q2, q3, q4, q5, q6⟩ := halvesL h h2
      obtain ⟨b1, b2, b3, _, _⟩ := half_bits h h2
      obtain ⟨c1, c2⟩ := half_com h h2
      have hp := half_pair h h2 ho
      have ht := tree_leaves h h2
      rw [way_two h h2, realN_two h h2]
      cases hh : hasI (tree (lit l)) lab with
      | false =>
        simp only [if_true]
        refine ⟨.inr trivial, by show 0 < _; omega, ?_⟩
        rw [ht] at hh
        unfold runS startS
        simp only [hp, hh]
        rw [ht]
        rfl
      | true =>
        have hnot : ¬ true = false := by simp
        rw [if_neg hnot, if_neg hnot]
        cases hb : bt lab (fork Leaf.label l) with
        | true =>
          simp only [if_true]
          obtain ⟨i1, i2, i3⟩ := ih (hiL l) (by omega) q6 q2 (fun x hx => ho x ((List.dropWhile_sublist _).subset hx))
          refine ⟨i1, by simp [Proof.adds]; omega, ?_⟩
          rw [run_adds, i3]
          have hu : upN (tree (lit (hiL l))) (tree (lit (loL l))) = ⟨tree (lit (loL l)), tree (lit (hiL l))⟩ := by unfold upN; rw [if_pos c2]
          have he : upE (tree (lit (hiL l))) (tree (lit (loL l))) lab = 0 := by
            unfold upE
            rw [hu]
            rw [if_neg (by simp [hp])]
            unfold upBad inI
            rw [← ht, hh, c1, hb, b3]; rfl
          simp only
          rw [ups, if_neg (by simp [he]), ups, hu]
          rw [List.reverse_cons, inI, ← ht]
        | false =>
          simp only [Bool.false_eq_true, if_false]
          obtain ⟨i1, i2, i3⟩ := ih (loL l) (by omega) q5 q1 (fun x hx => ho x ((List.takeWhile_sublist _).subset hx))
          refine ⟨i1, by simp [Proof.adds]; omega, ?_⟩
          rw [run_adds, i3]
          have hu : upN (tree (lit (loL l))) (tree (lit (hiL l))) = ⟨tree (lit (loL l)), tree (lit (hiL l))⟩ := by unfold upN; rw [lt_asymm c2]; rfl
          have he : upE (tree (lit (loL l))) (tree (lit (hiL l))) lab = 0 := by
            unfold upE
            rw [hu]
            rw [if_neg (by simp [hp])]
            unfold upBad inI
            rw [← ht, hh, c1, hb, b2]; rfl
          simp only
          rw [ups, if_neg (by simp [he]), ups, hu]
          rw [List.reverse_cons, inI, ← ht]
    · obtain ⟨x, rfl⟩ := one_of hn h2
      rw [way_one, realN_one, show lit [x] = [leafItem x] from rfl, tree_one]
      refine ⟨.inl rfl, by simp, ?_⟩
      unfold runS startS
      simp only [leafErr_ok (ho x (by simp))]
      rfl
/-- The nodes of what is made. -/
theorem way_nodes (lab : Lab) (l : List Leaf) (hl : l.length ≤ 256) (h : Rise Leaf.label l) (ho : ∀ x ∈ l, leafOk x) : nodesS (way l lab) lab = ((realN l lab).reverse, 0) := by
  by_cases hn : l = []
  · subst hn
    rw [way_nil, realN_nil]
    rfl
  · obtain ⟨e, p, r⟩ := way_run lab l.length l (Nat.le_refl _) h hn ho
    rw [nodes_run _ _ e (by omega), r]
    rfl
theorem ok_of_check {l : List Leaf} (h : checkS (ofS l) = 0) : ∀ x ∈ sortLf l, leafOk x := fun x hx => by
  have := (check_rise h).2.1 (leafItem x) (by rw [ofS_sort]; exact List.mem_map_of_mem hx)
  unfold itGood at this
  simp only [Bool.and_eq_true, decide_eq_true_eq] at this
  exact this.2
end
end Go.Ch
end
