/- ProofReads returns true at every input, and the input reads as it did. Part 5 of 5. No condition. -/
import Derived.Lib.Bytealg
import Derived.Test.YtchjaknlegaegaaGreatRows
import Derived.ProofKit
import Derived.Test.YtchjaknlegaegaaGreatPr3
section
/- Functions of the program: what each comes to, proved. -/
set_option linter.unusedVariables false
set_option linter.unusedSimpArgs false
set_option maxRecDepth 100000
set_option maxHeartbeats 4000000
namespace Go.Ch
open Go.RowKit (wrap64)
open Go.Proofs
noncomputable section
/- chirograph/proof.Bytes -/
def proof_Bytes_s1 (a0 : Proof) : (Int × Wr) → Option ((Int × Wr) ⊕ (Str × Int ⊕ (Int × Wr)))
 | (x38, x39) => (if (decide (x38 < (lenI a0.path))) = true then ((req ((0 : Int) ≤ x38 ∧ x38 < lenI a0.path)).bind fun _ => ((node_Good (getI a0.path x38)).bind fun t57 => (if (!t57) = true then some (.inr (.inl (([] : Str), (1 : Int)))) else ((proof_write x39 (getI a0.path x38)).bind fun t64 => some (.inl ((wrap64 (x38 + (1 : Int))), t64)))))) else some (.inr (.inr (x38, x39))))

def proof_Bytes_s2 (a0 : Proof) : (Int × Wr) → Option ((Int × Wr) ⊕ (Str × Int ⊕ (Int × Wr)))
 | (x111, x112) => (if (decide (x111 < (lenI a0.path))) = true then ((req ((0 : Int) ≤ x111 ∧ x111 < lenI a0.path)).bind fun _ => ((node_Good (getI a0.path x111)).bind fun t130 => (if (!t130) = true then some (.inr (.inl (([] : Str), (1 : Int)))) else ((proof_write x112 (getI a0.path x111)).bind fun t137 => some (.inl ((wrap64 (x111 + (1 : Int))), t137)))))) else some (.inr (.inr (x111, x112))))

def proof_Bytes_s3 (a0 : Proof) : (Int × Wr) → Option ((Int × Wr) ⊕ (Str × Int ⊕ (Int × Wr)))
 | (x184, x185) => (if (decide (x184 < (lenI a0.path))) = true then ((req ((0 : Int) ≤ x184 ∧ x184 < lenI a0.path)).bind fun _ => ((node_Good (getI a0.path x184)).bind fun t203 => (if (!t203) = true then some (.inr (.inl (([] : Str), (1 : Int)))) else ((proof_write x185 (getI a0.path x184)).bind fun t210 => some (.inl ((wrap64 (x184 + (1 : Int))), t210)))))) else some (.inr (.inr (x184, x185))))

def proof_Bytes  (a0 : Proof) : Option (Str × Int) :=
 ((code_Writer_Number (⟨([] : List UInt8), 0⟩ : Wr) a0.end_).bind fun t11 => (if (a0.end_ == (0 : Int)) = true then (if (decide ((256 : Int) < (lenI a0.path))) = true then some (([] : Str), (2 : Int)) else ((code_Writer_Number t11 (lenI a0.path)).bind fun t29 => ((iter (proof_Bytes_s1 a0) ((0 : Int), t29)).bind fun b41 => (match b41 with | .inl r₀ => some r₀ | .inr (x38, x39) => ((code_Writer_Done x39).bind fun t72 => some (t72.1, t72.2.1)))))) else (if (a0.end_ == (1 : Int)) = true then ((node_Bytes (Nd.leaf a0.leaf)).bind fun t83 => (if (t83.2 != (0 : Int)) = true then some (([] : Str), t83.2) else ((code_Writer_Text t11 t83.1).bind fun t92 => (if (decide ((256 : Int) < (lenI a0.path))) = true then some (([] : Str), (2 : Int)) else ((code_Writer_Number t92 (lenI a0.path)).bind fun t102 => ((iter (proof_Bytes_s2 a0) ((0 : Int), t102)).bind fun b114 => (match b114 with | .inl r₀ => some r₀ | .inr (x111, x112) => ((code_Writer_Done x112).bind fun t145 => some (t145.1, t145.2.1))))))))) else (if (a0.end_ == (2 : Int)) = true then ((node_Bytes (Nd.inner (⟨a0.a, a0.b⟩ : Inner))).bind fun t156 => (if (t156.2 != (0 : Int)) = true then some (([] : Str), t156.2) else ((code_Writer_Text t11 t156.1).bind fun t165 => (if (decide ((256 : Int) < (lenI a0.path))) = true then some (([] : Str), (2 : Int)) else ((code_Writer_Number t165 (lenI a0.path)).bind fun t175 => ((iter (proof_Bytes_s3 a0) ((0 : Int), t175)).bind fun b187 => (match b187 with | .inl r₀ => some r₀ | .inr (x184, x185) => ((code_Writer_Done x185).bind fun t218 => some (t218.1, t218.2.1))))))))) else some (([] : Str), (1 : Int))))))

theorem proof_Bytes_ok {S : Hp} (a0 : Proof) {v1 : Value} (q2 : Sls S v1 a0.path) {r : Str × Int} (h : proof_Bytes a0 = some r) : Fn Tryz.prog 36 [aggV [sV (.int .i64 a0.end_), sL a0.leaf.label, sL a0.leaf.value, sV (.int .i64 a0.leaf.at_), sV (.int .i64 a0.a.len), sL a0.a.bits, sL a0.a.sum, sV (.int .i64 a0.a.at_), sV (.int .i64 a0.b.len), sL a0.b.bits, sL a0.b.sum, sV (.int .i64 a0.b.at_), sV v1]] S (fun v S' => v = .tuple #[strV r.1, .int .i64 r.2]) := by
 unfold proof_Bytes at h
 refine fo [.tmp 2, .tmp 3] 63 Tryz.func36 Tryz.ntmps36 (fun o F Q hQ hN hret => ?_)
 refine sr (fun _ hK3 => ?_)
 refine st (OS.boxA (by decide) rfl (fun ad4 => ?_))
 refine an ?_
 refine an ?_
 refine nt hK3 ?_
 refine sr (fun _ hK6 => ?_)
 refine st (OS.alloc _ (by decide) zero168 (fun ad7 => ?_))
 refine nt hK6 ?_
 refine sr (fun _ hK9 => ?_)
 refine vl (Y.fieldAddr 0 rfl fld34_0 rfl) ?_
 refine lv 1 0 one3 ?_
 obtain ⟨t11, wt11, h⟩ := bind_some' h
 refine GO.nilRow (α := UInt8) ?_
 refine GO.foldW 1 0 rfl rfl (by decide) ?_
 refine st (OS.callP 1 _ (by decide) rfl fb102 rfl (code_Writer_Number_ok (⟨([] : List UInt8), 0⟩ : Wr) a0.end_ wt11) (fun v12 S13 _ e14 z15 => ?_))
 replace q2 := q2.up e14
 obtain ⟨rfl, rfl⟩ := z15
 refine nt hK9 ?_
 refine sr (fun _ hK16 => ?_)
 refine an ?_
 refine nt hK16 ?_
 refine G.seq (fun _ hK17 => ?_)
 refine sr (fun _ hK18 => ?_)
 refine vl (Y.fieldAddr 0 rfl fld34_0 rfl) ?_
 refine lv 2 0 one3 ?_
 refine nt hK18 ?_
 refine G.block ?_
 refine sr (fun _ hK19 => ?_)
 refine vl (Y.eqI rfl rfl) ?_
 refine an ?_
 refine nt hK19 ?_
 refine G.cond _ rfl (fun c20 => ?_) (fun c20 => ?_)
 ·replace h := ite_t c20 h
  refine G.skip ?_
  refine GX.normal_block ?_
  refine GX.then hK17 ?_
  refine G.seq (fun _ hK21 => ?_)
  refine sr (fun _ hK22 => ?_)
  refine mv ?_
  refine vl (Y.neNil0 rfl ifc63) ?_
  refine nt hK22 ?_
  refine G.cond false rfl (fun c23 => nomatch c23) (fun _ => ?_)
  refine sk hK21 ?_
  refine G.seq (fun _ hK24 => ?_)
  refine sr (fun _ hK25 => ?_)
  refine vl (Y.fieldAddr 198 rfl fld34_3 rfl) ?_
  refine lv 2 12 one32 ?_
  refine vl (Y.lenS rfl q2 slc32) ?_
  refine vl (Y.gtI rfl rfl) ?_
  refine nt hK25 ?_
  refine G.cond _ rfl (fun c26 => ?_) (fun c26 => ?_)
  ·replace h := ite_t c26 h
   refine sr (fun _ hK27 => ?_)
   refine an ?_
   refine an ?_
   refine nt hK27 ?_
   refine G.ret ?_
   obtain rfl := Option.some.inj h
   exact hret _ _ _ _ 3 e14 (.cons (.tmp rfl) (.cons (.tmp rfl) .nil)) rfl rfl
  replace h := ite_f c26 h
  refine sk hK24 ?_
  refine sr (fun _ hK28 => ?_)
  refine vl (Y.fieldAddr 198 rfl fld34_3 rfl) ?_
  refine lv 2 12 one32 ?_
  refine vl (Y.lenS rfl q2 slc32) ?_
  obtain ⟨t29, wt29, h⟩ := bind_some' h
  refine st (OS.callP 1 _ (by decide) rfl fb102 rfl (code_Writer_Number_ok t11 (lenI a0.path) wt29) (fun v30 S31 _ e32 z33 => ?_))
  replace q2 := q2.up e32
  obtain ⟨rfl, rfl⟩ := z33
  refine nt hK28 ?_
  refine G.seq (fun _ hK34 => ?_)
  refine sr (fun _ hK35 => ?_)
  refine vl (Y.fieldAddr 198 rfl fld34_3 rfl) ?_
  refine lv 2 12 one32 ?_
  refine vl (Y.lenS rfl q2 slc32) ?_
  refine mv ?_
  refine nt hK35 ?_
  refine G.block ?_
  obtain ⟨b41, wb41, ho42⟩ := bind_some' h
  refine G.keep [50, 49, 48, 4] rfl ?_
  refine G.loopK (proof_Bytes_s1 a0) (fun s₀ E' S' L' => match s₀ with | (x38, x39) => S31.le S' ∧ E' = [(50, .int .i64 x38), (49, .int .i64 (lenI a0.path)), (48, v1), (4, .pointer (some ⟨ad7, 0, none⟩))] ∧ (fun _ => True) :: WrA ad7 x39 :: Blk ad4 [sV (.int .i64 a0.end_), sL a0.leaf.label, sL a0.leaf.value, sV (.int .i64 a0.leaf.at_), sV (.int .i64 a0.a.len), sL a0.a.bits, sL a0.a.sum, sV (.int .i64 a0.a.at_), sV (.int .i64 a0.b.len), sL a0.b.bits, sL a0.b.sum, sV (.int .i64 a0.b.at_), sV v1] :: F = L') b41 1 (fun E₀ S₀ L₀ => ∃ (x38 : Int) (x39 : Wr), S31.le S₀ ∧ b41 = .inr (x38, x39) ∧ E₀ = [(4, .pointer (some ⟨ad7, 0, none⟩))] ∧ (fun _ => True) :: WrA ad7 x39 :: Blk ad4 [sV (.int .i64 a0.end_), sL a0.leaf.label, sL a0.leaf.value, sV (.int .i64 a0.leaf.at_), sV (.int .i64 a0.a.len), sL a0.a.bits, sL a0.a.sum, sV (.int .i64 a0.a.at_), sV (.int .i64 a0.b.len), sL a0.b.bits, sL a0.b.sum, sV (.int .i64 a0.b.at_), sV v1] :: F = L₀) wb41 ?_ ?_ ?_
  ·rintro _ S69 _ ⟨x38, x39, e70, rfl, rfl, rfl⟩
   have h := ho42; clear ho42
   try dsimp only at h
   replace q2 := q2.up e70
   refine GX.exit_block ?_
   refine GX.then hK34 ?_
   refine sr (fun _ hK71 => ?_)
   obtain ⟨t72, wt72, h⟩ := bind_some' h
   refine st (OS.callP 1 _ (by decide) rfl fb106 rfl (code_Writer_Done_ok x39 wt72) (fun v73 S74 _ e75 z76 => ?_))
   replace q2 := q2.up e75
   obtain ⟨rfl, rfl⟩ := z76
   refine vl (Y.extract _ rfl rfl) ?_
   refine vl (Y.extract _ rfl rfl) ?_
   refine an ?_
   refine an ?_
   refine nt hK71 ?_
   refine G.ret ?_
   obtain rfl := Option.some.inj h
   exact hret _ _ _ _ 3 (l2 e14 (l2 e32 (l2 e70 e75))) (.cons (.tmp rfl) (.cons (.tmp rfl) .nil)) rfl rfl
  ·exact ⟨Hp.le_refl _, rfl, rfl⟩
  rintro ⟨x38, x39⟩ _ S36 _ ⟨e37, rfl, rfl⟩ out1 h hf1 K1 hK1 hx40
  rw [proof_Bytes_s1] at h
  replace q2 := q2.up e37
  refine sr (fun _ hK43 => ?_)
  refine vl (Y.ltI rfl rfl) ?_
  refine nt hK43 ?_
  refine G.seq (fun _ hK44 => ?_)
  refine G.cond _ rfl (fun c45 => ?_) (fun c45 => ?_)
  ·replace h := ite_t c45 h
   refine sk hK44 ?_
   refine G.seq (fun _ hK46 => ?_)
   refine G.block ?_
   refine sr (fun _ hK47 => ?_)
   obtain ⟨g48, h⟩ := req_bind h
   obtain ⟨ad49, p50, z51, q52⟩ := Sls.at q2 g48
   refine vl (Y.idxS rfl z51 rfl slc32 g48) ?_
   refine vl (Y.loadS [sV (.int .i64 ((getI a0.path x38).len)), sL ((getI a0.path x38).bits), sL ((getI a0.path x38).sum), sV (.int .i64 ((getI a0.path x38).at_))] rfl (At.part q52 0 4 _ rfl rfl) row29 (by kernel_rfl)) ?_
   refine st (OS.alloc _ (by decide) zero29 (fun ad53 => ?_))
   refine sf 0 4 [sV (.int .i64 ((getI a0.path x38).len)), sL ((getI a0.path x38).bits), sL ((getI a0.path x38).sum), sV (.int .i64 ((getI a0.path x38).at_))] (aggV_cells _) (oI (oL (oL (oI oN)))) size29 ?_
   refine nt hK47 ?_
   refine G.seq (fun _ hK55 => ?_)
   refine sr (fun _ hK56 => ?_)
   refine lb 0 0 4 [sV (.int .i64 ((getI a0.path x38).len)), sL ((getI a0.path x38).bits), sL ((getI a0.path x38).sum), sV (.int .i64 ((getI a0.path x38).at_))] row29 ?_
   obtain ⟨t57, wt57, h⟩ := bind_some' h
   refine st (cl fb94 (node_Good_ok (getI a0.path x38) wt57) (fun v58 S59 e60 z61 => ?_))
   replace q2 := q2.up e60
   replace q52 := q52.up e60
   obtain rfl := z61
   refine vl (Y.not rfl) ?_
   refine nt hK56 ?_
   refine G.cond _ rfl (fun c62 => ?_) (fun c62 => ?_)
   ·replace h := ite_t c62 h
    refine sr (fun _ hK63 => ?_)
    refine an ?_
    refine an ?_
    refine nt hK63 ?_
    refine G.ret ?_
    obtain rfl := Option.some.inj h
    obtain rfl := hf1 _ rfl
    have h := ho42
    try dsimp only at h
    obtain rfl := Option.some.inj h
    exact hret _ _ _ _ 4 (l2 e14 (l2 e32 (l2 e37 e60))) (.cons (.tmp rfl) (.cons (.tmp rfl) .nil)) rfl rfl
   replace h := ite_f c62 h
   refine sk hK55 ?_
   refine G.region ?_
   refine lb 0 0 4 [sV (.int .i64 ((getI a0.path x38).len)), sL ((getI a0.path x38).bits), sL ((getI a0.path x38).sum), sV (.int .i64 ((getI a0.path x38).at_))] row29 ?_
   obtain ⟨t64, wt64, h⟩ := bind_some' h
   refine st (OS.callP 2 _ (by decide) rfl fb105 rfl (proof_write_ok x39 (getI a0.path x38) wt64) (fun v65 S66 _ e67 z68 => ?_))
   replace q2 := q2.up e67
   replace q52 := q52.up e67
   obtain ⟨rfl, rfl⟩ := z68
   refine GO.nil ?_
   refine GX.normal_block ?_
   refine GX.then hK46 ?_
   refine G.region ?_
   refine vl (Y.addI rfl rfl) ?_
   refine mv ?_
   refine GO.nil ?_
   obtain rfl := Option.some.inj h
   refine GX.keep [50, 49, 48, 4] rfl ?_
   refine GX.less 1 rfl ?_
   exact hK1 _ _ _ _ rfl ⟨(l2 e37 (l2 e60 e67)), rfl, rfl⟩
  replace h := ite_f c45 h
  refine G.exit ?_
  refine GX.exit_then ?_
  obtain rfl := Option.some.inj h
  refine GX.keep [4] rfl ?_
  exact hx40 _ _ _ ⟨_, _, e37, (hf1 _ rfl).symm, rfl, rfl⟩
 replace h := ite_f c20 h
 refine sr (fun _ hK77 => ?_)
 refine vl (Y.eqI rfl rfl) ?_
 refine an ?_
 refine nt hK77 ?_
 refine G.cond _ rfl (fun c78 => ?_) (fun c78 => ?_)
 ·replace h := ite_t c78 h
  refine G.region ?_
  refine vl (Y.fieldAddr 1 rfl fld34_1 rfl) ?_
  refine lb 2 1 3 [sL a0.leaf.label, sL a0.leaf.value, sV (.int .i64 a0.leaf.at_)] row25 ?_
  refine vl (Y.mkI rfl stt25) ?_
  refine an ?_
  refine GO.nil ?_
  refine GX.normal_block ?_
  refine GX.then hK17 ?_
  refine G.seq (fun _ hK79 => ?_)
  refine sr (fun _ hK80 => ?_)
  refine mv ?_
  refine vl (Y.neNil rfl rfl ifc63) ?_
  refine nt hK80 ?_
  refine G.cond true rfl (fun _ => ?_) (fun c81 => nomatch c81)
  refine sr (fun _ hK82 => ?_)
  refine mv ?_
  obtain ⟨t83, wt83, h⟩ := bind_some' h
  refine st (cl fb103 (node_Bytes_ok (Nd.leaf a0.leaf) wt83) (fun v84 S85 e86 z87 => ?_))
  replace q2 := q2.up e86
  obtain rfl := z87
  refine mv ?_
  refine vl (Y.extract _ rfl rfl) ?_
  refine vl (Y.extract _ rfl rfl) ?_
  refine an ?_
  refine an ?_
  refine nt hK82 ?_
  refine G.seq (fun _ hK88 => ?_)
  refine sr (fun _ hK89 => ?_)
  refine mv ?_
  refine vl (Y.neI rfl rfl) ?_
  refine nt hK89 ?_
  refine G.cond _ rfl (fun c90 => ?_) (fun c90 => ?_)
  ·replace h := ite_t c90 h
   refine sr (fun _ hK91 => ?_)
   refine mv ?_
   refine an ?_
   refine an ?_
   refine nt hK91 ?_
   refine G.ret ?_
   obtain rfl := Option.some.inj h
   exact hret _ _ _ _ 3 (l2 e14 e86) (.cons (.tmp rfl) (.cons (.tmp rfl) .nil)) rfl rfl
  replace h := ite_f c90 h
  refine sk hK88 ?_
  refine G.region ?_
  refine mv ?_
  obtain ⟨t92, wt92, h⟩ := bind_some' h
  refine st (OS.callP 1 _ (by decide) rfl fb104 rfl (code_Writer_Text_ok t11 t83.1 wt92) (fun v93 S94 _ e95 z96 => ?_))
  replace q2 := q2.up e95
  obtain ⟨rfl, rfl⟩ := z96
  refine nt hK79 ?_
  refine G.seq (fun _ hK97 => ?_)
  refine sr (fun _ hK98 => ?_)
  refine vl (Y.fieldAddr 198 rfl fld34_3 rfl) ?_
  refine lv 2 12 one32 ?_
  refine vl (Y.lenS rfl q2 slc32) ?_
  refine vl (Y.gtI rfl rfl) ?_
  refine nt hK98 ?_
  refine G.cond _ rfl (fun c99 => ?_) (fun c99 => ?_)
  ·replace h := ite_t c99 h
   refine sr (fun _ hK100 => ?_)
   refine an ?_
   refine an ?_
   refine nt hK100 ?_
   refine G.ret ?_
   obtain rfl := Option.some.inj h
   exact hret _ _ _ _ 3 (l2 e14 (l2 e86 e95)) (.cons (.tmp rfl) (.cons (.tmp rfl) .nil)) rfl rfl
  replace h := ite_f c99 h
  refine sk hK97 ?_
  refine sr (fun _ hK101 => ?_)
  refine vl (Y.fieldAddr 198 rfl fld34_3 rfl) ?_
  refine lv 2 12 one32 ?_
  refine vl (Y.lenS rfl q2 slc32) ?_
  obtain ⟨t102, wt102, h⟩ := bind_some' h
  refine st (OS.callP 1 _ (by decide) rfl fb102 rfl (code_Writer_Number_ok t92 (lenI a0.path) wt102) (fun v103 S104 _ e105 z106 => ?_))
  replace q2 := q2.up e105
  obtain ⟨rfl, rfl⟩ := z106
  refine nt hK101 ?_
  refine G.seq (fun _ hK107 => ?_)
  refine sr (fun _ hK108 => ?_)
  refine vl (Y.fieldAddr 198 rfl fld34_3 rfl) ?_
  refine lv 2 12 one32 ?_
  refine vl (Y.lenS rfl q2 slc32) ?_
  refine mv ?_
  refine nt hK108 ?_
  refine G.block ?_
  obtain ⟨b114, wb114, ho115⟩ := bind_some' h
  refine G.keep [50, 49, 48, 4] rfl ?_
  refine G.loopK (proof_Bytes_s2 a0) (fun s₀ E' S' L' => match s₀ with | (x111, x112) => S104.le S' ∧ E' = [(50, .int .i64 x111), (49, .int .i64 (lenI a0.path)), (48, v1), (4, .pointer (some ⟨ad7, 0, none⟩))] ∧ (fun _ => True) :: WrA ad7 x112 :: Blk ad4 [sV (.int .i64 a0.end_), sL a0.leaf.label, sL a0.leaf.value, sV (.int .i64 a0.leaf.at_), sV (.int .i64 a0.a.len), sL a0.a.bits, sL a0.a.sum, sV (.int .i64 a0.a.at_), sV (.int .i64 a0.b.len), sL a0.b.bits, sL a0.b.sum, sV (.int .i64 a0.b.at_), sV v1] :: F = L') b114 1 (fun E₀ S₀ L₀ => ∃ (x111 : Int) (x112 : Wr), S104.le S₀ ∧ b114 = .inr (x111, x112) ∧ E₀ = [(4, .pointer (some ⟨ad7, 0, none⟩))] ∧ (fun _ => True) :: WrA ad7 x112 :: Blk ad4 [sV (.int .i64 a0.end_), sL a0.leaf.label, sL a0.leaf.value, sV (.int .i64 a0.leaf.at_), sV (.int .i64 a0.a.len), sL a0.a.bits, sL a0.a.sum, sV (.int .i64 a0.a.at_), sV (.int .i64 a0.b.len), sL a0.b.bits, sL a0.b.sum, sV (.int .i64 a0.b.at_), sV v1] :: F = L₀) wb114 ?_ ?_ ?_
  ·rintro _ S142 _ ⟨x111, x112, e143, rfl, rfl, rfl⟩
   have h := ho115; clear ho115
   try dsimp only at h
   replace q2 := q2.up e143
   refine GX.exit_block ?_
   refine GX.then hK107 ?_
   refine sr (fun _ hK144 => ?_)
   obtain ⟨t145, wt145, h⟩ := bind_some' h
   refine st (OS.callP 1 _ (by decide) rfl fb106 rfl (code_Writer_Done_ok x112 wt145) (fun v146 S147 _ e148 z149 => ?_))
   replace q2 := q2.up e148
   obtain ⟨rfl, rfl⟩ := z149
   refine vl (Y.extract _ rfl rfl) ?_
   refine vl (Y.extract _ rfl rfl) ?_
   refine an ?_
   refine an ?_
   refine nt hK144 ?_
   refine G.ret ?_
   obtain rfl := Option.some.inj h
   exact hret _ _ _ _ 3 (l2 e14 (l2 e86 (l2 e95 (l2 e105 (l2 e143 e148))))) (.cons (.tmp rfl) (.cons (.tmp rfl) .nil)) rfl rfl
  ·exact ⟨Hp.le_refl _, rfl, rfl⟩
  rintro ⟨x111, x112⟩ _ S109 _ ⟨e110, rfl, rfl⟩ out2 h hf2 K2 hK2 hx113
  rw [proof_Bytes_s2] at h
  replace q2 := q2.up e110
  refine sr (fun _ hK116 => ?_)
  refine vl (Y.ltI rfl rfl) ?_
  refine nt hK116 ?_
  refine G.seq (fun _ hK117 => ?_)
  refine G.cond _ rfl (fun c118 => ?_) (fun c118 => ?_)
  ·replace h := ite_t c118 h
   refine sk hK117 ?_
   refine G.seq (fun _ hK119 => ?_)
   refine G.block ?_
   refine sr (fun _ hK120 => ?_)
   obtain ⟨g121, h⟩ := req_bind h
   obtain ⟨ad122, p123, z124, q125⟩ := Sls.at q2 g121
   refine vl (Y.idxS rfl z124 rfl slc32 g121) ?_
   refine vl (Y.loadS [sV (.int .i64 ((getI a0.path x111).len)), sL ((getI a0.path x111).bits), sL ((getI a0.path x111).sum), sV (.int .i64 ((getI a0.path x111).at_))] rfl (At.part q125 0 4 _ rfl rfl) row29 (by kernel_rfl)) ?_
   refine st (OS.alloc _ (by decide) zero29 (fun ad126 => ?_))
   refine sf 0 4 [sV (.int .i64 ((getI a0.path x111).len)), sL ((getI a0.path x111).bits), sL ((getI a0.path x111).sum), sV (.int .i64 ((getI a0.path x111).at_))] (aggV_cells _) (oI (oL (oL (oI oN)))) size29 ?_
   refine nt hK120 ?_
   refine G.seq (fun _ hK128 => ?_)
   refine sr (fun _ hK129 => ?_)
   refine lb 0 0 4 [sV (.int .i64 ((getI a0.path x111).len)), sL ((getI a0.path x111).bits), sL ((getI a0.path x111).sum), sV (.int .i64 ((getI a0.path x111).at_))] row29 ?_
   obtain ⟨t130, wt130, h⟩ := bind_some' h
   refine st (cl fb94 (node_Good_ok (getI a0.path x111) wt130) (fun v131 S132 e133 z134 => ?_))
   replace q2 := q2.up e133
   replace q125 := q125.up e133
   obtain rfl := z134
   refine vl (Y.not rfl) ?_
   refine nt hK129 ?_
   refine G.cond _ rfl (fun c135 => ?_) (fun c135 => ?_)
   ·replace h := ite_t c135 h
    refine sr (fun _ hK136 => ?_)
    refine an ?_
    refine an ?_
    refine nt hK136 ?_
    refine G.ret ?_
    obtain rfl := Option.some.inj h
    obtain rfl := hf2 _ rfl
    have h := ho115
    try dsimp only at h
    obtain rfl := Option.some.inj h
    exact hret _ _ _ _ 4 (l2 e14 (l2 e86 (l2 e95 (l2 e105 (l2 e110 e133))))) (.cons (.tmp rfl) (.cons (.tmp rfl) .nil)) rfl rfl
   replace h := ite_f c135 h
   refine sk hK128 ?_
   refine G.region ?_
   refine lb 0 0 4 [sV (.int .i64 ((getI a0.path x111).len)), sL ((getI a0.path x111).bits), sL ((getI a0.path x111).sum), sV (.int .i64 ((getI a0.path x111).at_))] row29 ?_
   obtain ⟨t137, wt137, h⟩ := bind_some' h
   refine st (OS.callP 2 _ (by decide) rfl fb105 rfl (proof_write_ok x112 (getI a0.path x111) wt137) (fun v138 S139 _ e140 z141 => ?_))
   replace q2 := q2.up e140
   replace q125 := q125.up e140
   obtain ⟨rfl, rfl⟩ := z141
   refine GO.nil ?_
   refine GX.normal_block ?_
   refine GX.then hK119 ?_
   refine G.region ?_
   refine vl (Y.addI rfl rfl) ?_
   refine mv ?_
   refine GO.nil ?_
   obtain rfl := Option.some.inj h
   refine GX.keep [50, 49, 48, 4] rfl ?_
   refine GX.less 1 rfl ?_
   exact hK2 _ _ _ _ rfl ⟨(l2 e110 (l2 e133 e140)), rfl, rfl⟩
  replace h := ite_f c118 h
  refine G.exit ?_
  refine GX.exit_then ?_
  obtain rfl := Option.some.inj h
  refine GX.keep [4] rfl ?_
  exact hx113 _ _ _ ⟨_, _, e110, (hf2 _ rfl).symm, rfl, rfl⟩
 replace h := ite_f c78 h
 refine sr (fun _ hK150 => ?_)
 refine vl (Y.eqI rfl rfl) ?_
 refine an ?_
 refine nt hK150 ?_
 refine G.cond _ rfl (fun c151 => ?_) (fun c151 => ?_)
 ·replace h := ite_t c151 h
  refine G.region ?_
  refine vl (Y.fieldAddr 66 rfl fld34_2 rfl) ?_
  refine lb 2 4 8 [sV (.int .i64 a0.a.len), sL a0.a.bits, sL a0.a.sum, sV (.int .i64 a0.a.at_), sV (.int .i64 a0.b.len), sL a0.b.bits, sL a0.b.sum, sV (.int .i64 a0.b.at_)] row31 ?_
  refine vl (Y.mkI rfl stt31) ?_
  refine an ?_
  refine GO.nil ?_
  refine GX.normal_block ?_
  refine GX.then hK17 ?_
  refine G.seq (fun _ hK152 => ?_)
  refine sr (fun _ hK153 => ?_)
  refine mv ?_
  refine vl (Y.neNil rfl rfl ifc63) ?_
  refine nt hK153 ?_
  refine G.cond true rfl (fun _ => ?_) (fun c154 => nomatch c154)
  refine sr (fun _ hK155 => ?_)
  refine mv ?_
  obtain ⟨t156, wt156, h⟩ := bind_some' h
  refine st (cl fb103 (node_Bytes_ok (Nd.inner (⟨a0.a, a0.b⟩ : Inner)) wt156) (fun v157 S158 e159 z160 => ?_))
  replace q2 := q2.up e159
  obtain rfl := z160
  refine mv ?_
  refine vl (Y.extract _ rfl rfl) ?_
  refine vl (Y.extract _ rfl rfl) ?_
  refine an ?_
  refine an ?_
  refine nt hK155 ?_
  refine G.seq (fun _ hK161 => ?_)
  refine sr (fun _ hK162 => ?_)
  refine mv ?_
  refine vl (Y.neI rfl rfl) ?_
  refine nt hK162 ?_
  refine G.cond _ rfl (fun c163 => ?_) (fun c163 => ?_)
  ·replace h := ite_t c163 h
   refine sr (fun _ hK164 => ?_)
   refine mv ?_
   refine an ?_
   refine an ?_
   refine nt hK164 ?_
   refine G.ret ?_
   obtain rfl := Option.some.inj h
   exact hret _ _ _ _ 3 (l2 e14 e159) (.cons (.tmp rfl) (.cons (.tmp rfl) .nil)) rfl rfl
  replace h := ite_f c163 h
  refine sk hK161 ?_
  refine G.region ?_
  refine mv ?_
  obtain ⟨t165, wt165, h⟩ := bind_some' h
  refine st (OS.callP 1 _ (by decide) rfl fb104 rfl (code_Writer_Text_ok t11 t156.1 wt165) (fun v166 S167 _ e168 z169 => ?_))
  replace q2 := q2.up e168
  obtain ⟨rfl, rfl⟩ := z169
  refine nt hK152 ?_
  refine G.seq (fun _ hK170 => ?_)
  refine sr (fun _ hK171 => ?_)
  refine vl (Y.fieldAddr 198 rfl fld34_3 rfl) ?_
  refine lv 2 12 one32 ?_
  refine vl (Y.lenS rfl q2 slc32) ?_
  refine vl (Y.gtI rfl rfl) ?_
  refine nt hK171 ?_
  refine G.cond _ rfl (fun c172 => ?_) (fun c172 => ?_)
  ·replace h := ite_t c172 h
   refine sr (fun _ hK173 => ?_)
   refine an ?_
   refine an ?_
   refine nt hK173 ?_
   refine G.ret ?_
   obtain rfl := Option.some.inj h
   exact hret _ _ _ _ 3 (l2 e14 (l2 e159 e168)) (.cons (.tmp rfl) (.cons (.tmp rfl) .nil)) rfl rfl
  replace h := ite_f c172 h
  refine sk hK170 ?_
  refine sr (fun _ hK174 => ?_)
  refine vl (Y.fieldAddr 198 rfl fld34_3 rfl) ?_
  refine lv 2 12 one32 ?_
  refine vl (Y.lenS rfl q2 slc32) ?_
  obtain ⟨t175, wt175, h⟩ := bind_some' h
  refine st (OS.callP 1 _ (by decide) rfl fb102 rfl (code_Writer_Number_ok t165 (lenI a0.path) wt175) (fun v176 S177 _ e178 z179 => ?_))
  replace q2 := q2.up e178
  obtain ⟨rfl, rfl⟩ := z179
  refine nt hK174 ?_
  refine G.seq (fun _ hK180 => ?_)
  refine sr (fun _ hK181 => ?_)
  refine vl (Y.fieldAddr 198 rfl fld34_3 rfl) ?_
  refine lv 2 12 one32 ?_
  refine vl (Y.lenS rfl q2 slc32) ?_
  refine mv ?_
  refine nt hK181 ?_
  refine G.block ?_
  obtain ⟨b187, wb187, ho188⟩ := bind_some' h
  refine G.keep [50, 49, 48, 4] rfl ?_
  refine G.loopK (proof_Bytes_s3 a0) (fun s₀ E' S' L' => match s₀ with | (x184, x185) => S177.le S' ∧ E' = [(50, .int .i64 x184), (49, .int .i64 (lenI a0.path)), (48, v1), (4, .pointer (some ⟨ad7, 0, none⟩))] ∧ (fun _ => True) :: WrA ad7 x185 :: Blk ad4 [sV (.int .i64 a0.end_), sL a0.leaf.label, sL a0.leaf.value, sV (.int .i64 a0.leaf.at_), sV (.int .i64 a0.a.len), sL a0.a.bits, sL a0.a.sum, sV (.int .i64 a0.a.at_), sV (.int .i64 a0.b.len), sL a0.b.bits, sL a0.b.sum, sV (.int .i64 a0.b.at_), sV v1] :: F = L') b187 1 (fun E₀ S₀ L₀ => ∃ (x184 : Int) (x185 : Wr), S177.le S₀ ∧ b187 = .inr (x184, x185) ∧ E₀ = [(4, .pointer (some ⟨ad7, 0, none⟩))] ∧ (fun _ => True) :: WrA ad7 x185 :: Blk ad4 [sV (.int .i64 a0.end_), sL a0.leaf.label, sL a0.leaf.value, sV (.int .i64 a0.leaf.at_), sV (.int .i64 a0.a.len), sL a0.a.bits, sL a0.a.sum, sV (.int .i64 a0.a.at_), sV (.int .i64 a0.b.len), sL a0.b.bits, sL a0.b.sum, sV (.int .i64 a0.b.at_), sV v1] :: F = L₀) wb187 ?_ ?_ ?_
  ·rintro _ S215 _ ⟨x184, x185, e216, rfl, rfl, rfl⟩
   have h := ho188; clear ho188
   try dsimp only at h
   replace q2 := q2.up e216
   refine GX.exit_block ?_
   refine GX.then hK180 ?_
   refine sr (fun _ hK217 => ?_)
   obtain ⟨t218, wt218, h⟩ := bind_some' h
   refine st (OS.callP 1 _ (by decide) rfl fb106 rfl (code_Writer_Done_ok x185 wt218) (fun v219 S220 _ e221 z222 => ?_))
   replace q2 := q2.up e221
   obtain ⟨rfl, rfl⟩ := z222
   refine vl (Y.extract _ rfl rfl) ?_
   refine vl (Y.extract _ rfl rfl) ?_
   refine an ?_
   refine an ?_
   refine nt hK217 ?_
   refine G.ret ?_
   obtain rfl := Option.some.inj h
   exact hret _ _ _ _ 3 (l2 e14 (l2 e159 (l2 e168 (l2 e178 (l2 e216 e221))))) (.cons (.tmp rfl) (.cons (.tmp rfl) .nil)) rfl rfl
  ·exact ⟨Hp.le_refl _, rfl, rfl⟩
  rintro ⟨x184, x185⟩ _ S182 _ ⟨e183, rfl, rfl⟩ out3 h hf3 K3 hK3 hx186
  rw [proof_Bytes_s3] at h
  replace q2 := q2.up e183
  refine sr (fun _ hK189 => ?_)
  refine vl (Y.ltI rfl rfl) ?_
  refine nt hK189 ?_
  refine G.seq (fun _ hK190 => ?_)
  refine G.cond _ rfl (fun c191 => ?_) (fun c191 => ?_)
  ·replace h := ite_t c191 h
   refine sk hK190 ?_
   refine G.seq (fun _ hK192 => ?_)
   refine G.block ?_
   refine sr (fun _ hK193 => ?_)
   obtain ⟨g194, h⟩ := req_bind h
   obtain ⟨ad195, p196, z197, q198⟩ := Sls.at q2 g194
   refine vl (Y.idxS rfl z197 rfl slc32 g194) ?_
   refine vl (Y.loadS [sV (.int .i64 ((getI a0.path x184).len)), sL ((getI a0.path x184).bits), sL ((getI a0.path x184).sum), sV (.int .i64 ((getI a0.path x184).at_))] rfl (At.part q198 0 4 _ rfl rfl) row29 (by kernel_rfl)) ?_
   refine st (OS.alloc _ (by decide) zero29 (fun ad199 => ?_))
   refine sf 0 4 [sV (.int .i64 ((getI a0.path x184).len)), sL ((getI a0.path x184).bits), sL ((getI a0.path x184).sum), sV (.int .i64 ((getI a0.path x184).at_))] (aggV_cells _) (oI (oL (oL (oI oN)))) size29 ?_
   refine nt hK193 ?_
   refine G.seq (fun _ hK201 => ?_)
   refine sr (fun _ hK202 => ?_)
   refine lb 0 0 4 [sV (.int .i64 ((getI a0.path x184).len)), sL ((getI a0.path x184).bits), sL ((getI a0.path x184).sum), sV (.int .i64 ((getI a0.path x184).at_))] row29 ?_
   obtain ⟨t203, wt203, h⟩ := bind_some' h
   refine st (cl fb94 (node_Good_ok (getI a0.path x184) wt203) (fun v204 S205 e206 z207 => ?_))
   replace q2 := q2.up e206
   replace q198 := q198.up e206
   obtain rfl := z207
   refine vl (Y.not rfl) ?_
   refine nt hK202 ?_
   refine G.cond _ rfl (fun c208 => ?_) (fun c208 => ?_)
   ·replace h := ite_t c208 h
    refine sr (fun _ hK209 => ?_)
    refine an ?_
    refine an ?_
    refine nt hK209 ?_
    refine G.ret ?_
    obtain rfl := Option.some.inj h
    obtain rfl := hf3 _ rfl
    have h := ho188
    try dsimp only at h
    obtain rfl := Option.some.inj h
    exact hret _ _ _ _ 4 (l2 e14 (l2 e159 (l2 e168 (l2 e178 (l2 e183 e206))))) (.cons (.tmp rfl) (.cons (.tmp rfl) .nil)) rfl rfl
   replace h := ite_f c208 h
   refine sk hK201 ?_
   refine G.region ?_
   refine lb 0 0 4 [sV (.int .i64 ((getI a0.path x184).len)), sL ((getI a0.path x184).bits), sL ((getI a0.path x184).sum), sV (.int .i64 ((getI a0.path x184).at_))] row29 ?_
   obtain ⟨t210, wt210, h⟩ := bind_some' h
   refine st (OS.callP 2 _ (by decide) rfl fb105 rfl (proof_write_ok x185 (getI a0.path x184) wt210) (fun v211 S212 _ e213 z214 => ?_))
   replace q2 := q2.up e213
   replace q198 := q198.up e213
   obtain ⟨rfl, rfl⟩ := z214
   refine GO.nil ?_
   refine GX.normal_block ?_
   refine GX.then hK192 ?_
   refine G.region ?_
   refine vl (Y.addI rfl rfl) ?_
   refine mv ?_
   refine GO.nil ?_
   obtain rfl := Option.some.inj h
   refine GX.keep [50, 49, 48, 4] rfl ?_
   refine GX.less 1 rfl ?_
   exact hK3 _ _ _ _ rfl ⟨(l2 e183 (l2 e206 e213)), rfl, rfl⟩
  replace h := ite_f c191 h
  refine G.exit ?_
  refine GX.exit_then ?_
  obtain rfl := Option.some.inj h
  refine GX.keep [4] rfl ?_
  exact hx186 _ _ _ ⟨_, _, e183, (hf3 _ rfl).symm, rfl, rfl⟩
 replace h := ite_f c151 h
 refine sr (fun _ hK223 => ?_)
 refine an ?_
 refine an ?_
 refine nt hK223 ?_
 refine G.ret ?_
 obtain rfl := Option.some.inj h
 exact hret _ _ _ _ 3 e14 (.cons (.tmp rfl) (.cons (.tmp rfl) .nil)) rfl rfl

end
end Go.Ch
end
section
/- Functions of the program: what each comes to, proved. -/
set_option linter.unusedVariables false
set_option linter.unusedSimpArgs false
set_option maxRecDepth 100000
set_option maxHeartbeats 4000000
namespace Go.Ch
open Go.RowKit (wrap64)
open Go.Proofs
noncomputable section
/- chirograph/chirographlaw18.ProofReads -/
def l18_ProofReads (k : Nat) (a0 : Str) (a1 : Proof) : Option Bool :=
 ((l03_Cut a0 (3000 : Int)).bind fun t7 => ((l18_Cut a1).bind fun t13 => ((proof_Read t7).bind fun t21 => ((r18_Read t7).bind fun t31 => (((l18_awake k).bind fun t44 => (if (!t44) = true then some true else (if (t21.2 != t31.2) = true then some true else ((l18_Told t21.1).bind fun t71 => ((r18_Same t71 t31.1).bind fun t82 => some (!t82)))))).bind fun b43 => (if b43 = true then some false else ((proof_Bytes t13).bind fun t124 => ((l18_Told t13).bind fun t130 => ((r18_Bytes t130).bind fun t137 => ((if (t124.2 == t137.2) = true then some (t124.1 == t137.1) else some false).bind fun b143 => some b143))))))))))

theorem l18_ProofReads_ok {S : Hp} (k : Nat) (a0 : Str) (a1 : Proof) {v1 : Value} (q2 : Sls S v1 a1.path) {r : Bool} (h : l18_ProofReads k a0 a1 = some r) : Fn Tryz.prog 5 [strV a0, aggV [sV (.int .i64 a1.end_), sL a1.leaf.label, sL a1.leaf.value, sV (.int .i64 a1.leaf.at_), sV (.int .i64 a1.a.len), sL a1.a.bits, sL a1.a.sum, sV (.int .i64 a1.a.at_), sV (.int .i64 a1.b.len), sL a1.b.bits, sL a1.b.sum, sV (.int .i64 a1.b.at_), sV v1]] S (fun v S' => v = .bool r) := by
 unfold l18_ProofReads at h
 refine fo [.tmp 4] 60 Tryz.func5 Tryz.ntmps5 (fun o F Q hQ hN hret => ?_)
 refine sr (fun _ hK3 => ?_)
 refine st (OS.boxA (by decide) rfl (fun ad4 => ?_))
 refine an ?_
 refine nt hK3 ?_
 refine sr (fun _ hK6 => ?_)
 refine mv ?_
 obtain ⟨t7, wt7, h⟩ := bind_some' h
 refine st (cl fb32 (l03_Cut_ok a0 (3000 : Int) wt7) (fun v8 S9 e10 z11 => ?_))
 replace q2 := q2.up e10
 obtain rfl := z11
 refine an ?_
 refine nt hK6 ?_
 refine sr (fun _ hK12 => ?_)
 refine lb 0 0 13 [sV (.int .i64 a1.end_), sL a1.leaf.label, sL a1.leaf.value, sV (.int .i64 a1.leaf.at_), sV (.int .i64 a1.a.len), sL a1.a.bits, sL a1.a.sum, sV (.int .i64 a1.a.at_), sV (.int .i64 a1.b.len), sL a1.b.bits, sL a1.b.sum, sV (.int .i64 a1.b.at_), sV v1] row34 ?_
 obtain ⟨t13, wt13, h⟩ := bind_some' h
 refine st (cl fb6 (l18_Cut_ok a1 q2 wt13) (fun v14 S15 e16 z17 => ?_))
 replace q2 := q2.up e16
 obtain ⟨v18, rfl, q19⟩ := z17
 refine sf 0 13 [sV (.int .i64 t13.end_), sL t13.leaf.label, sL t13.leaf.value, sV (.int .i64 t13.leaf.at_), sV (.int .i64 t13.a.len), sL t13.a.bits, sL t13.a.sum, sV (.int .i64 t13.a.at_), sV (.int .i64 t13.b.len), sL t13.b.bits, sL t13.b.sum, sV (.int .i64 t13.b.at_), sV v18] (aggV_cells _) (oI (oL (oL (oI (oI (oL (oL (oI (oI (oL (oL (oI (oV (q19.one) oN))))))))))))) size34 ?_
 refine nt hK12 ?_
 refine sr (fun _ hK20 => ?_)
 refine mv ?_
 obtain ⟨t21, wt21, h⟩ := bind_some' h
 refine st (cl fb33 (proof_Read_ok t7 wt21) (fun v22 S23 e24 z25 => ?_))
 replace q2 := q2.up e24
 replace q19 := q19.up e24
 obtain ⟨v26, rfl, q27⟩ := z25
 refine mv ?_
 refine vl (Y.extract _ rfl rfl) ?_
 refine vl (Y.extract _ rfl rfl) ?_
 refine st (OS.alloc _ (by decide) zero34 (fun ad28 => ?_))
 refine sf 0 13 [sV (.int .i64 t21.1.end_), sL t21.1.leaf.label, sL t21.1.leaf.value, sV (.int .i64 t21.1.leaf.at_), sV (.int .i64 t21.1.a.len), sL t21.1.a.bits, sL t21.1.a.sum, sV (.int .i64 t21.1.a.at_), sV (.int .i64 t21.1.b.len), sL t21.1.b.bits, sL t21.1.b.sum, sV (.int .i64 t21.1.b.at_), sV v26] (aggV_cells _) (oI (oL (oL (oI (oI (oL (oL (oI (oI (oL (oL (oI (oV (q27.one) oN))))))))))))) size34 ?_
 refine an ?_
 refine nt hK20 ?_
 refine sr (fun _ hK30 => ?_)
 refine mv ?_
 obtain ⟨t31, wt31, h⟩ := bind_some' h
 refine st (cl fb34 (r18_Read_ok t7 wt31) (fun v32 S33 e34 z35 => ?_))
 replace q2 := q2.up e34
 replace q19 := q19.up e34
 replace q27 := q27.up e34
 obtain ⟨v36, rfl, q37⟩ := z35
 refine mv ?_
 refine vl (Y.extract _ rfl rfl) ?_
 refine vl (Y.extract _ rfl rfl) ?_
 refine st (OS.alloc _ (by decide) zero48 (fun ad38 => ?_))
 refine sf 0 13 [sV (.int .i64 t31.1.end_), sL t31.1.leaf.label, sL t31.1.leaf.value, sV (.int .i64 t31.1.leaf.at_), sV (.int .i64 t31.1.a.len), sL t31.1.a.bits, sL t31.1.a.sum, sV (.int .i64 t31.1.a.at_), sV (.int .i64 t31.1.b.len), sL t31.1.b.bits, sL t31.1.b.sum, sV (.int .i64 t31.1.b.at_), sV v36] (aggV_cells _) (oI (oL (oL (oI (oI (oL (oL (oI (oI (oL (oL (oI (oV (q37.one) oN))))))))))))) size48 ?_
 refine an ?_
 refine nt hK30 ?_
 refine G.seq (fun _ hK40 => ?_)
 refine G.seq (fun _ hK41 => ?_)
 obtain ⟨b43, wb43, h⟩ := bind_some' h
 refine G.cut (fun E₀ S₀ L₀ => S33.le S₀ ∧ E₀ = [(40, .bool b43), (3, .pointer (some ⟨ad4, 0, none⟩))] ∧ Blk ad38 [sV (.int .i64 t31.1.end_), sL t31.1.leaf.label, sL t31.1.leaf.value, sV (.int .i64 t31.1.leaf.at_), sV (.int .i64 t31.1.a.len), sL t31.1.a.bits, sL t31.1.a.sum, sV (.int .i64 t31.1.a.at_), sV (.int .i64 t31.1.b.len), sL t31.1.b.bits, sL t31.1.b.sum, sV (.int .i64 t31.1.b.at_), sV v36] :: Blk ad28 [sV (.int .i64 t21.1.end_), sL t21.1.leaf.label, sL t21.1.leaf.value, sV (.int .i64 t21.1.leaf.at_), sV (.int .i64 t21.1.a.len), sL t21.1.a.bits, sL t21.1.a.sum, sV (.int .i64 t21.1.a.at_), sV (.int .i64 t21.1.b.len), sL t21.1.b.bits, sL t21.1.b.sum, sV (.int .i64 t21.1.b.at_), sV v26] :: Blk ad4 [sV (.int .i64 t13.end_), sL t13.leaf.label, sL t13.leaf.value, sV (.int .i64 t13.leaf.at_), sV (.int .i64 t13.a.len), sL t13.a.bits, sL t13.a.sum, sV (.int .i64 t13.a.at_), sV (.int .i64 t13.b.len), sL t13.b.bits, sL t13.b.sum, sV (.int .i64 t13.b.at_), sV v18] :: F = L₀) (fun K42 hK42 => ?_) ?_
 ·replace h := wb43
  obtain ⟨t44, wt44, h⟩ := bind_some' h
  rcases Bool.eq_false_or_eq_true (!t44) with c53 | c53
  ·replace h := ite_t c53 h
   obtain rfl := Option.some.inj h
   refine G.drawN 14 mixed (by kernel_rfl) ?_
   refine g1 0 ?_
   refine n1 rfl (cl fb18 (l18_awake_ok k  wt44) (fun v54 S55 e56 z57 => ⟨⟨[], .refl, e56⟩, ?_⟩))
   have q58 := q2.up e56
   have q59 := q19.up e56
   have q60 := q27.up e56
   have q61 := q37.up e56
   obtain rfl := z57
   refine tn 1 rfl hQ (fun _ _ _ => Y.not rfl) ?_
   refine tn 2 rfl hQ (fun _ _ _ => Y.move rfl) ?_
   refine tf 3 rfl .refl hQ (gn 29 c53) ?_
   refine tf 4 rfl .refl hQ (gn 29 c53) ?_
   refine tf 5 rfl .refl hQ (gn 29 c53) ?_
   refine tn 6 rfl hQ (fun _ _ _ => Y.pickT _ c53 rfl rfl) ?_
   refine tn 7 rfl hQ (fun _ _ _ => Y.move rfl) ?_
   refine tf 8 rfl .refl hQ (gn 34 rfl) ?_
   refine tf 9 rfl .refl hQ (gn 34 rfl) ?_
   refine tf 10 rfl .refl hQ (gn 34 rfl) ?_
   refine tf 11 rfl .refl hQ (gn 34 rfl) ?_
   refine tf 12 rfl .refl hQ (gn 34 rfl) ?_
   refine tn 13 rfl hQ (fun _ _ _ => Y.pickT _ rfl rfl rfl) ?_
   refine dn ?_
   refine GX.keep [40, 3] rfl ?_
   exact hK42 _ _ _ ⟨e56, rfl, rfl⟩
  replace h := ite_f c53 h
  rcases Bool.eq_false_or_eq_true (t21.2 != t31.2) with c62 | c62
  ·replace h := ite_t c62 h
   obtain rfl := Option.some.inj h
   refine G.drawN 14 mixed (by kernel_rfl) ?_
   refine g1 0 ?_
   refine n1 rfl (cl fb18 (l18_awake_ok k  wt44) (fun v63 S64 e65 z66 => ⟨⟨[], .refl, e65⟩, ?_⟩))
   have q67 := q2.up e65
   have q68 := q19.up e65
   have q69 := q27.up e65
   have q70 := q37.up e65
   obtain rfl := z66
   refine tn 1 rfl hQ (fun _ _ _ => Y.not rfl) ?_
   refine tn 2 rfl hQ (fun _ _ _ => Y.move rfl) ?_
   refine tw 3 rfl .refl hQ (gi 29 c53) (fun _ _ _ => Y.move rfl) ?_
   refine tw 4 rfl .refl hQ (gi 29 c53) (fun _ _ _ => Y.move rfl) ?_
   refine tw 5 rfl .refl hQ (gi 29 c53) (fun _ _ _ => Y.neI rfl rfl) ?_
   refine tn 6 rfl hQ (fun _ _ _ => Y.pickF _ c53 rfl rfl) ?_
   refine tn 7 rfl hQ (fun _ _ _ => Y.move rfl) ?_
   refine tf 8 rfl .refl hQ (gn 34 c62) ?_
   refine tf 9 rfl .refl hQ (gn 34 c62) ?_
   refine tf 10 rfl .refl hQ (gn 34 c62) ?_
   refine tf 11 rfl .refl hQ (gn 34 c62) ?_
   refine tf 12 rfl .refl hQ (gn 34 c62) ?_
   refine tn 13 rfl hQ (fun _ _ _ => Y.pickT _ c62 rfl rfl) ?_
   refine dn ?_
   refine GX.keep [40, 3] rfl ?_
   exact hK42 _ _ _ ⟨e65, rfl, rfl⟩
  replace h := ite_f c62 h
  obtain ⟨t71, wt71, h⟩ := bind_some' h
  obtain ⟨t82, wt82, h⟩ := bind_some' h
  obtain rfl := Option.some.inj h
  refine G.drawN 14 mixed (by kernel_rfl) ?_
  refine g1 0 ?_
  refine n1 rfl (cl fb18 (l18_awake_ok k  wt44) (fun v92 S93 e94 z95 => ⟨⟨[], .refl, e94⟩, ?_⟩))
  have q96 := q2.up e94
  have q97 := q19.up e94
  have q98 := q27.up e94
  have q99 := q37.up e94
  obtain rfl := z95
  refine tn 1 rfl hQ (fun _ _ _ => Y.not rfl) ?_
  refine tn 2 rfl hQ (fun _ _ _ => Y.move rfl) ?_
  refine tw 3 rfl .refl hQ (gi 29 c53) (fun _ _ _ => Y.move rfl) ?_
  refine tw 4 rfl .refl hQ (gi 29 c53) (fun _ _ _ => Y.move rfl) ?_
  refine tw 5 rfl .refl hQ (gi 29 c53) (fun _ _ _ => Y.neI rfl rfl) ?_
  refine tn 6 rfl hQ (fun _ _ _ => Y.pickF _ c53 rfl rfl) ?_
  refine tn 7 rfl hQ (fun _ _ _ => Y.move rfl) ?_
  refine tw 8 rfl .refl hQ (gi 34 c62) (fun S₀ X₀ e₀ => Y.loadB (X₀.length + 1)  0 13 [sV (.int .i64 t21.1.end_), sL t21.1.leaf.label, sL t21.1.leaf.value, sV (.int .i64 t21.1.leaf.at_), sV (.int .i64 t21.1.a.len), sL t21.1.a.bits, sL t21.1.a.sum, sV (.int .i64 t21.1.a.at_), sV (.int .i64 t21.1.b.len), sL t21.1.b.bits, sL t21.1.b.sum, sV (.int .i64 t21.1.b.at_), sV v26] rfl (Lk rfl) rfl rfl row34 (by kernel_rfl)) ?_
  refine tw 10 rfl .refl hQ (gi 34 c62) (fun S₀ X₀ e₀ => Y.loadB (X₀.length + 0)  0 13 [sV (.int .i64 t31.1.end_), sL t31.1.leaf.label, sL t31.1.leaf.value, sV (.int .i64 t31.1.leaf.at_), sV (.int .i64 t31.1.a.len), sL t31.1.a.bits, sL t31.1.a.sum, sV (.int .i64 t31.1.a.at_), sV (.int .i64 t31.1.b.len), sL t31.1.b.bits, sL t31.1.b.sum, sV (.int .i64 t31.1.b.at_), sV v36] rfl (Lk rfl) rfl rfl row48 (by kernel_rfl)) ?_
  refine g1 9 ?_
  refine GD1.on rfl (gi 34 c62) (by kernel_rfl) (cl fb10 (l18_Told_ok t21.1 q98 wt71) (fun v100 S101 e102 z103 => ⟨⟨[], .refl, (l2 e94 e102)⟩, ?_⟩))
  have q104 := q96.up e102
  have q105 := q97.up e102
  have q106 := q98.up e102
  have q107 := q99.up e102
  obtain ⟨v108, rfl, q109⟩ := z103
  refine g1 11 ?_
  refine GD1.on rfl (gi 34 c62) (by kernel_rfl) (cl fb35 (r18_Same_ok t71 t31.1 q109 q107 wt82) (fun v110 S111 e112 z113 => ⟨⟨[], .refl, (l2 e94 (l2 e102 e112))⟩, ?_⟩))
  have q114 := q104.up e112
  have q115 := q105.up e112
  have q116 := q106.up e112
  have q117 := q107.up e112
  have q118 := q109.up e112
  obtain rfl := z113
  refine tw 12 rfl .refl hQ (gi 34 c62) (fun _ _ _ => Y.not rfl) ?_
  refine tn 13 rfl hQ (fun _ _ _ => Y.pickF _ c62 rfl rfl) ?_
  refine dn ?_
  refine GX.keep [40, 3] rfl ?_
  exact hK42 _ _ _ ⟨(l2 e94 (l2 e102 e112)), rfl, rfl⟩
 rintro _ S119 _ ⟨e120, rfl, rfl⟩
 replace q19 := q19.up e120
 replace q27 := q27.up e120
 replace q37 := q37.up e120
 refine GX.then hK41 ?_
 refine G.cond _ rfl (fun c121 => ?_) (fun c121 => ?_)
 ·replace h := ite_t c121 h
  refine sr (fun _ hK122 => ?_)
  refine an ?_
  refine nt hK122 ?_
  refine G.ret ?_
  obtain rfl := Option.some.inj h
  exact hret _ _ _ _ 3 (l2 e10 (l2 e16 (l2 e24 (l2 e34 e120)))) (.cons (.tmp rfl) .nil) rfl rfl
 replace h := ite_f c121 h
 refine sk hK40 ?_
 refine sr (fun _ hK123 => ?_)
 refine lb 2 0 13 [sV (.int .i64 t13.end_), sL t13.leaf.label, sL t13.leaf.value, sV (.int .i64 t13.leaf.at_), sV (.int .i64 t13.a.len), sL t13.a.bits, sL t13.a.sum, sV (.int .i64 t13.a.at_), sV (.int .i64 t13.b.len), sL t13.b.bits, sL t13.b.sum, sV (.int .i64 t13.b.at_), sV v18] row34 ?_
 obtain ⟨t124, wt124, h⟩ := bind_some' h
 refine st (cl fb36 (proof_Bytes_ok t13 q19 wt124) (fun v125 S126 e127 z128 => ?_))
 replace q19 := q19.up e127
 replace q27 := q27.up e127
 replace q37 := q37.up e127
 obtain rfl := z128
 refine mv ?_
 refine vl (Y.extract _ rfl rfl) ?_
 refine vl (Y.extract _ rfl rfl) ?_
 refine an ?_
 refine an ?_
 refine nt hK123 ?_
 refine sr (fun _ hK129 => ?_)
 refine lb 2 0 13 [sV (.int .i64 t13.end_), sL t13.leaf.label, sL t13.leaf.value, sV (.int .i64 t13.leaf.at_), sV (.int .i64 t13.a.len), sL t13.a.bits, sL t13.a.sum, sV (.int .i64 t13.a.at_), sV (.int .i64 t13.b.len), sL t13.b.bits, sL t13.b.sum, sV (.int .i64 t13.b.at_), sV v18] row34 ?_
 obtain ⟨t130, wt130, h⟩ := bind_some' h
 refine st (cl fb10 (l18_Told_ok t13 q19 wt130) (fun v131 S132 e133 z134 => ?_))
 replace q19 := q19.up e133
 replace q27 := q27.up e133
 replace q37 := q37.up e133
 obtain ⟨v135, rfl, q136⟩ := z134
 obtain ⟨t137, wt137, h⟩ := bind_some' h
 refine st (cl fb37 (r18_Bytes_ok t130 q136 wt137) (fun v138 S139 e140 z141 => ?_))
 replace q19 := q19.up e140
 replace q136 := q136.up e140
 replace q27 := q27.up e140
 replace q37 := q37.up e140
 obtain rfl := z141
 refine mv ?_
 refine vl (Y.extract _ rfl rfl) ?_
 refine vl (Y.extract _ rfl rfl) ?_
 refine an ?_
 refine an ?_
 refine nt hK129 ?_
 refine sr (fun _ hK142 => ?_)
 refine mv ?_
 refine mv ?_
 refine vl (Y.eqI rfl rfl) ?_
 refine mv ?_
 obtain ⟨b143, wb143, h⟩ := bind_some' h
 refine GO.joinB 4 59 (b143 = ·) (fun K145 hK145 => ?_) ?_
 ·replace h := wb143
  rcases Bool.eq_false_or_eq_true (t124.2 == t137.2) with c144 | c144
  ·replace h := ite_t c144 h
   refine gv 55 c144 (Y.move rfl) ?_
   refine gv 55 c144 (Y.move rfl) ?_
   refine gv 55 c144 (Y.eqStr (a := t124.1) (b := t137.1) rfl rfl) ?_
   refine vl (Y.pickT _ c144 rfl rfl) ?_
   refine GO.nil ?_
   refine p2 (p2 (p2 ?_))
   exact hK145 _ _ l0 (Option.some.inj h).symm
  replace h := ite_f c144 h
  refine gf 55 c144 ?_
  refine gf 55 c144 ?_
  refine gf 55 c144 ?_
  refine vl (Y.pickF _ c144 rfl rfl) ?_
  refine GO.nil ?_
  refine p2 (p2 (p2 ?_))
  exact hK145 _ _ l0 (Option.some.inj h).symm
 rintro _ S146 e147 rfl
 replace q19 := q19.up e147
 replace q136 := q136.up e147
 replace q27 := q27.up e147
 replace q37 := q37.up e147
 refine an ?_
 refine nt hK142 ?_
 refine G.ret ?_
 obtain rfl := Option.some.inj h
 exact hret _ _ _ _ 3 (l2 e10 (l2 e16 (l2 e24 (l2 e34 (l2 e120 (l2 e127 (l2 e133 (l2 e140 e147)))))))) (.cons (.tmp rfl) .nil) rfl rfl

end
end Go.Ch
end
section
/- What the functions on bits come to. -/
set_option linter.unusedVariables false
set_option linter.unusedSimpArgs false
namespace Go.Ch
open Go.RowKit (wrap64)
noncomputable section

theorem tdiv8 {i : Nat} (h : i ≤ 256) : wrap64 (Int.tdiv (i : Int) 8) = ((i / 8 : Nat) : Int) := by
  rw [wrap_id (by rw [Int.tdiv_eq_ediv_of_nonneg (by omega)]; omega), Int.tdiv_eq_ediv_of_nonneg (by omega)]; omega
theorem tmod8 (i : Nat) : Int.tmod (i : Int) 8 = ((i % 8 : Nat) : Int) := by
  rw [Int.tmod_eq_emod_of_nonneg (by omega)]; omega
theorem getV_lab (l : Lab) (k : Nat) : getV l (k : Int) = l.toList.getD k 0 := by
  simp [getV, getI]; rfl
theorem and1 (n : Nat) : bitsI .and .i64 (n : Int) 1 = ((n % 2 : Nat) : Int) := by
  show IntKind.i64.wrap ((BitVec.ofInt 64 (n : Int) &&& BitVec.ofInt 64 ((1 : Nat) : Int)).toNat : Int) = _
  rw [bv_of_nat, bv_of_nat, BitVec.toNat_and, BitVec.toNat_ofNat, BitVec.toNat_ofNat]
  have e : (n % 2 ^ 64 &&& 1 % 2 ^ 64) = n % 2 := by
    rw [show (1 : Nat) % 2 ^ 64 = 1 from rfl, Nat.and_one_is_mod]; omega
  rw [e, wrap_i64, wrap_id (by omega)]

/-- Bit i, as Go has it. -/
def bitI (l : Lab) (i : Int) : Int := if 0 ≤ i then b01 (bt l i.toNat) else 0
theorem bitI_nat (l : Lab) (i : Nat) : bitI l (i : Int) = b01 (bt l i) := by unfold bitI; simp
theorem bits_Bit_eq (l : Lab) (i : Int) : bits_Bit l i = some (bitI l i) := by
  unfold bits_Bit bitI
  by_cases h : 0 ≤ i ∧ i < 256
  · obtain ⟨n, rfl⟩ := Int.eq_ofNat_of_zero_le h.1
    have hn : n < 256 := by omega
    have h1 : ¬ (n : Int) < 0 := by omega
    have h2 : ¬ 256 ≤ (n : Int) := by omega
    simp only [h1, h2, decide_false, Bool.false_eq_true, if_false, some_bind, if_pos h.1, Int.toNat_natCast]
    rw [tdiv8 (by omega), tmod8, req_t (by omega), req_t (by rw [wrap_id (by omega)]; omega)]
    rw [wrap_id (by omega), getV_lab, and1]
    congr 1
    unfold bt bt8 b01 hr_u8
    have e : (min ((7 : Int) - ((n % 8 : Nat) : Int)).toNat 8) = 7 - n % 8 := by omega
    rw [e]
    have h8 : (UInt8.ofNat ((l.toList.getD (n / 8) 0).toNat / 2 ^ (7 - n % 8))).toNat = (l.toList.getD (n / 8) 0).toNat / 2 ^ (7 - n % 8) := by
      rw [UInt8.toNat_ofNat_of_lt']
      exact Nat.lt_of_le_of_lt (Nat.div_le_self _ _) (UInt8.toNat_lt _)
    rw [h8]
    generalize (l.toList.getD (n / 8) 0).toNat / 2 ^ (7 - n % 8) = m
    rcases Nat.mod_two_eq_zero_or_one m with q | q <;> simp [q]
  · by_cases h1 : i < 0
    · simp [h1, show ¬ 0 ≤ i by omega]
    · have h2 : 256 ≤ i := by omega
      simp [h1, h2, show 0 ≤ i by omega, bt_big l i.toNat (by omega), b01]

theorem tdiv_nat (m k : Nat) (hm : m < 256) (hk : 0 < k) : wrap64 (Int.tdiv (m : Int) (k : Int)) = ((m / k : Nat) : Int) := by
  have := Nat.div_le_self m k
  rw [Int.tdiv_eq_ediv_of_nonneg (by omega)]
  have e : (m : Int) / (k : Int) = ((m / k : Nat) : Int) := by simp
  rw [e]
  generalize m / k = q at *
  rw [wrap_id (by omega)]
theorem r01_Bit_eq (l : Lab) (i : Int) : r01_Bit l i = some (bitI l i) := by
  unfold r01_Bit bitI
  by_cases h : 0 ≤ i ∧ i < 256
  · obtain ⟨n, rfl⟩ := Int.eq_ofNat_of_zero_le h.1
    have hn : n < 256 := by omega
    have h1 : ¬ (n : Int) < 0 := by omega
    have h2 : ¬ 255 < (n : Int) := by omega
    simp only [h1, h2, decide_false, Bool.false_eq_true, if_false, some_bind, if_pos h.1, Int.toNat_natCast]
    rw [tdiv8 (by omega), tmod8, req_t (by omega), getV_lab]
    have hm : (l.toList.getD (n / 8) 0).toNat < 256 := UInt8.toNat_lt _
    have hit : iter r01_Bit_s1 (((n % 8 : Nat) : Int), (((l.toList.getD (n / 8) 0).toNat : Nat) : Int)) = some (7, (((l.toList.getD (n / 8) 0).toNat / 2 ^ (7 - n % 8) : Nat) : Int)) := by
      generalize (l.toList.getD (n / 8) 0).toNat = m at hm
      have := iter_to (step := r01_Bit_s1) (fun k => ((((n % 8 + k : Nat)) : Int), ((m / 2 ^ k : Nat) : Int))) (7 - n % 8) (b := (7, ((m / 2 ^ (7 - n % 8) : Nat) : Int))) (fun k hk => ?_) ?_
      · simpa using this
      · have h7 : ((n % 8 + k : Nat) : Int) < 7 := by omega
        simp only [r01_Bit_s1, h7, decide_true, if_true]
        have hq : m / 2 ^ k < 256 := Nat.lt_of_le_of_lt (Nat.div_le_self _ _) hm
        have := tdiv_nat (m / 2 ^ k) 2 hq (by omega)
        rw [wrap_id (by omega), show ((2 : Int)) = ((2 : Nat) : Int) from rfl, this, Nat.div_div_eq_div_mul, ← Nat.pow_succ]
        congr 2
      · have h7 : ¬ ((n % 8 + (7 - n % 8) : Nat) : Int) < 7 := by omega
        simp only [r01_Bit_s1, h7, decide_false, Bool.false_eq_true, if_false]
        congr 3; omega
    rw [hit]
    simp only [some_bind]
    congr 1
    unfold bt bt8 b01
    generalize (l.toList.getD (n / 8) 0).toNat / 2 ^ (7 - n % 8) = m
    rcases Nat.mod_two_eq_zero_or_one m with q | q <;> simp [q, Int.tmod_eq_emod_of_nonneg] <;> omega
  · by_cases h1 : i < 0
    · simp [h1, show ¬ 0 ≤ i by omega]
    · have h2 : 255 < i := by omega
      simp [h1, h2, show 0 ≤ i by omega, bt_big l i.toNat (by omega), b01]

theorem r01_Common_eq (l m : Lab) : r01_Common l m = some (com l m : Int) := by
  have h1 := com_le l m
  unfold r01_Common
  have := iter_to (step := r01_Common_s1 l m) (fun k => (k : Int)) (com l m) (b := (com l m : Int)) (fun k hk => ?_) ?_
  · rw [show ((0 : Int)) = ((0 : Nat) : Int) from rfl, this]; rfl
  · have hk2 : ((k : Nat) : Int) < 256 := by omega
    simp only [r01_Common_s1, hk2, decide_true, if_true, r01_Bit_eq, bitI_nat, some_bind, com_bt hk, beq_self_eq_true]
    rw [wrap_id (by omega)]; rfl
  · by_cases hc : com l m < 256
    · have hk2 : ((com l m : Nat) : Int) < 256 := by omega
      have hne := com_ne hc
      have hb : (b01 (bt l (com l m)) == b01 (bt m (com l m))) = false := by
        revert hne; cases bt l (com l m) <;> cases bt m (com l m) <;> simp [b01]
      simp [r01_Common_s1, hk2, r01_Bit_eq, bitI_nat, hb]
    · have hk2 : ¬ ((com l m : Nat) : Int) < 256 := by omega
      simp [r01_Common_s1, hk2]
theorem r01_Order_eq (a b : Lab) : r01_Order a b = some (ord a b) := by
  unfold r01_Order ord
  rw [r01_Common_eq, some_bind]
  by_cases h : com a b = 256
  · simp [h]
  · have h2 : (((com a b : Nat) : Int) == 256) = false := by simp; omega
    simp only [h2, Bool.false_eq_true, if_false, if_neg h, r01_Bit_eq, some_bind, bitI_nat]
    rw [wrap_id (n := 2 * b01 (bt a (com a b))) (by cases bt a (com a b) <;> simp [b01]), wrap_id (by cases bt a (com a b) <;> simp [b01])]

theorem lz8 (x : UInt8) (hx : x ≠ 0) : ∃ n, n < 8 ∧ (∀ k, k < n → bt8 x k = false) ∧ bt8 x n = true := by
  have h : ∃ n, n < 8 ∧ bt8 x n = true := by
    apply Classical.byContradiction
    intro hc
    apply hx
    apply bt8_ext
    intro k hk
    rw [bt8_zero]
    cases hb : bt8 x k with
    | false => rfl
    | true => exact absurd ⟨k, hk, hb⟩ hc
  obtain ⟨n, ⟨h1, h2⟩, h3⟩ := exists_least _ h
  refine ⟨n, h1, fun k hk => ?_, h2⟩
  cases hb : bt8 x k with
  | false => rfl
  | true => exact absurd ⟨by omega, hb⟩ (h3 k hk)
theorem bt8_hl (x : UInt8) (k : Nat) (h : k < 7) : bt8 (hl_u8 x 1) k = bt8 x (k + 1) := by
  unfold bt8 hl_u8
  have e : (UInt8.ofNat (x.toNat * 2 ^ (min (1 : Int).toNat 8))).toNat = x.toNat * 2 % 256 := by
    rw [UInt8.toNat_ofNat']; rfl
  rw [e]
  have hx := x.toNat_lt
  generalize x.toNat = m at hx
  have hk : k = 0 ∨ k = 1 ∨ k = 2 ∨ k = 3 ∨ k = 4 ∨ k = 5 ∨ k = 6 := by omega
  rcases hk with rfl | rfl | rfl | rfl | rfl | rfl | rfl <;> (simp only [Nat.reduceSub, Nat.reducePow, Nat.reduceAdd]; congr 1; omega)
theorem and128 (x : UInt8) : ((x &&& 128) == 0) = !bt8 x 0 := by
  have h1 : ∀ k, k < 8 → bt8 128 k = decide (k = 0) := by decide
  cases hb : bt8 x 0 with
  | true =>
    simp only [Bool.not_true, beq_eq_false_iff_ne]
    intro h
    have := congrArg (bt8 · 0) h
    simp only [bt8_zero] at this
    rw [bt8_and _ _ _ (by omega), hb, h1 _ (by omega)] at this
    cases this
  | false =>
    simp only [Bool.not_false, beq_iff_eq]
    apply bt8_ext
    intro k hk
    rw [bt8_and _ _ _ hk, h1 _ hk, bt8_zero]
    by_cases c : k = 0
    · subst c; simp [hb]
    · simp [c]
theorem bits_Common_eq (l m : Lab) : bits_Common l m = some (com l m : Int) := by
  have hc := com_le l m
  have go : ∀ j : Nat, j ≤ 32 → (∀ i, i < j → 8 * i + 8 ≤ com l m) → iter (bits_Common_s1 l m) (j : Int) = some (if com l m < 256 then .inl (com l m : Int) else .inr 32) := by
    intro j
    generalize hd : 32 - j = d
    induction d generalizing j with
    | zero =>
      intro hj h
      have : j = 32 := by omega
      subst this
      have := h 31 (by omega)
      rw [if_neg (by omega)]
      refine iter_end ?_
      simp only [bits_Common_s1, show ¬ (((32 : Nat)) : Int) < 32 by omega, decide_false, Bool.false_eq_true, if_false]
      rfl
    | succ d ih =>
      intro hj h
      have hj2 : ((j : Nat) : Int) < 32 := by omega
      have hjn : j < 32 := by omega
      have hb : ∀ k, k < 8 → bt8 (getV l (j : Int) ^^^ getV m (j : Int)) k = (bt l (8 * j + k) ^^ bt m (8 * j + k)) := fun k hk => by
        rw [bt8_xor _ _ _ hk, getV_nat _ _ hjn, getV_nat _ _ hjn, bt_at _ _ _ hjn hk, bt_at _ _ _ hjn hk]
      by_cases hx : getV l (j : Int) ^^^ getV m (j : Int) = 0
      · have h8 : 8 * j + 8 ≤ com l m := by
          refine le_com (by omega) fun k hk => ?_
          rcases Nat.lt_or_ge k (8 * j) with c | c
          · have := h (k / 8) (by omega); exact com_bt (by omega)
          · have := hb (k - 8 * j) (by omega)
            rw [hx, bt8_zero, show 8 * j + (k - 8 * j) = k from by omega] at this
            revert this; cases bt l k <;> cases bt m k <;> simp
        refine iter_next (s' := ((j + 1 : Nat) : Int)) ?_ (ih (j + 1) (by omega) (by omega) fun i hi => ?_)
        · simp only [bits_Common_s1, dec_t hj2, if_true]
          rw [req_t (by omega), req_t (by omega), hx]
          simp only [bne_self_eq_false, Bool.false_eq_true, if_false]
          rw [wrap_id (by omega)]
          rfl
        · rcases Nat.lt_or_ge i j with c | c
          · exact h i c
          · have : i = j := by omega
            subst this; exact h8
      · obtain ⟨n, hn, h0, h1⟩ := lz8 _ hx
        have hcom : com l m = 8 * j + n := by
          refine com_eq (by omega) (fun k hk => ?_) (fun _ => ?_)
          · rcases Nat.lt_or_ge k (8 * j) with c | c
            · have := h (k / 8) (by omega); exact com_bt (by omega)
            · have := hb (k - 8 * j) (by omega)
              rw [h0 _ (by omega), show 8 * j + (k - 8 * j) = k from by omega] at this
              revert this; cases bt l k <;> cases bt m k <;> simp
          · have := hb n hn
            rw [h1] at this
            intro e; rw [e] at this; simp at this
        rw [if_pos (by omega)]
        refine iter_end ?_
        have hne : ((getV l (j : Int) ^^^ getV m (j : Int)) != 0) = true := by simpa using hx
        simp only [bits_Common_s1, dec_t hj2, if_true]
        rw [req_t (by omega), req_t (by omega), if_pos hne, wrap_id (by omega)]
        generalize getV l (j : Int) ^^^ getV m (j : Int) = x at h0 h1
        have hit := iter_to (step := bits_Common_s2) (fun k => (((8 * j + k : Nat) : Int), Nat.rec (motive := fun _ => UInt8) x (fun _ y => hl_u8 y 1) k)) n (b := (((8 * j + n : Nat) : Int), Nat.rec (motive := fun _ => UInt8) x (fun _ y => hl_u8 y 1) n)) (fun k hk => ?_) ?_
        · have e0 : ((8 : Int) * ((j : Nat) : Int)) = ((8 * j + 0 : Nat) : Int) := by omega
          rw [e0]
          rw [show (Nat.rec (motive := fun _ => UInt8) x (fun _ y => hl_u8 y 1) 0) = x from rfl] at hit
          rw [hit, some_bind, hcom]
        all_goals
          have hk8 : ∀ k, k ≤ n → ∀ i, i + k < 8 → bt8 (Nat.rec (motive := fun _ => UInt8) x (fun _ y => hl_u8 y 1) k) i = bt8 x (i + k) := by
            intro k
            induction k with
            | zero => intro _ i _; rfl
            | succ k ih2 =>
              intro hk i hi
              show bt8 (hl_u8 (Nat.rec (motive := fun _ => UInt8) x (fun _ y => hl_u8 y 1) k) 1) i = _
              rw [bt8_hl _ _ (by omega), ih2 (by omega) (i + 1) (by omega)]
              congr 1; omega
        · simp only [bits_Common_s2]
          rw [and128, hk8 k (by omega) 0 (by omega), Nat.zero_add, h0 k hk, wrap_id (by omega)]
          rfl
        · simp only [bits_Common_s2]
          rw [and128, hk8 n (by omega) 0 (by omega), Nat.zero_add, h1]
          rfl
  unfold bits_Common
  rw [show ((0 : Int)) = ((0 : Nat) : Int) from rfl, go 0 (by omega) (by omega), some_bind]
  by_cases h : com l m < 256
  · rw [if_pos h]
  · rw [if_neg h]; show some (256 : Int) = _; rw [show com l m = 256 by omega]; rfl
end
end Go.Ch
end
section
/- What the functions on bits come to: the order, beginnings. -/
set_option linter.unusedVariables false
set_option linter.unusedSimpArgs false
namespace Go.Ch
open Go.RowKit (wrap64)
noncomputable section

theorem u8_bits_sum (x : UInt8) : x.toNat = (bt8 x 0).toNat * 128 + (bt8 x 1).toNat * 64 + (bt8 x 2).toNat * 32 + (bt8 x 3).toNat * 16 + (bt8 x 4).toNat * 8 + (bt8 x 5).toNat * 4 + (bt8 x 6).toNat * 2 + (bt8 x 7).toNat := by
  have e : x = mk8 (bt8 x) := bt8_ext _ _ fun k hk => (bt8_mk8 _ _ hk).symm
  have h0 : ∀ b : Bool, b.toNat ≤ 1 := fun b => by cases b <;> simp
  have := congrArg UInt8.toNat e
  unfold mk8 at this
  rw [UInt8.toNat_ofNat_of_lt' (by have := h0 (bt8 x 0); have := h0 (bt8 x 1); have := h0 (bt8 x 2); have := h0 (bt8 x 3); have := h0 (bt8 x 4); have := h0 (bt8 x 5); have := h0 (bt8 x 6); have := h0 (bt8 x 7); show _ < 256; omega)] at this
  exact this
theorem u8_lt_of (x y : UInt8) (n : Nat) (hn : n < 8) (h : ∀ k, k < n → bt8 x k = bt8 y k) (h0 : bt8 x n = false) (h1 : bt8 y n = true) : x < y := by
  rw [UInt8.lt_iff_toNat_lt]
  have ex := u8_bits_sum x
  have ey := u8_bits_sum y
  have hb : ∀ b : Bool, b.toNat ≤ 1 := fun b => by cases b <;> simp
  have h' : ∀ k, k < n → (bt8 x k).toNat = (bt8 y k).toNat := fun k hk => by rw [h k hk]
  have b1 := hb (bt8 x 1); have b2 := hb (bt8 x 2); have b3 := hb (bt8 x 3); have b4 := hb (bt8 x 4); have b5 := hb (bt8 x 5); have b6 := hb (bt8 x 6); have b7 := hb (bt8 x 7)
  have hn' : n = 0 ∨ n = 1 ∨ n = 2 ∨ n = 3 ∨ n = 4 ∨ n = 5 ∨ n = 6 ∨ n = 7 := by omega
  rcases hn' with rfl | rfl | rfl | rfl | rfl | rfl | rfl | rfl <;> simp only [h0, h1, Bool.toNat_false, Bool.toNat_true] at ex ey
  · omega
  · have := h' 0 (by omega); omega
  · have := h' 0 (by omega); have := h' 1 (by omega); omega
  · have := h' 0 (by omega); have := h' 1 (by omega); have := h' 2 (by omega); omega
  · have := h' 0 (by omega); have := h' 1 (by omega); have := h' 2 (by omega); have := h' 3 (by omega); omega
  · have := h' 0 (by omega); have := h' 1 (by omega); have := h' 2 (by omega); have := h' 3 (by omega); have := h' 4 (by omega); omega
  · have := h' 0 (by omega); have := h' 1 (by omega); have := h' 2 (by omega); have := h' 3 (by omega); have := h' 4 (by omega); have := h' 5 (by omega); omega
  · have := h' 0 (by omega); have := h' 1 (by omega); have := h' 2 (by omega); have := h' 3 (by omega); have := h' 4 (by omega); have := h' 5 (by omega); have := h' 6 (by omega); omega
theorem zL_get (j : Nat) (h : j < 32) : (zL : Lab)[j] = 0 := by unfold zL; exact Vector.getElem_replicate _
theorem getD_lab (l : Lab) (i : Nat) (h : i < 32) : l.toList.getD i 0 = l[i] := by simp [List.getD_eq_getElem?_getD, h]
theorem cmpB_ord (a b : Lab) : cmpB a.toList b.toList = ord a b := by
  unfold cmpB Extern.BytealgCompare.cmp
  simp only [Lib.get!_eq]
  have hs : ∀ l : Lab, (ByteArray.mk l.toList.toArray).size = 32 := fun l => by simp [ByteArray.size]
  rw [hs, hs]
  cases h : (List.range (min 32 32)).find? fun i => a.toList.getD i 0 != b.toList.getD i 0 with
  | none =>
    rw [List.find?_eq_none] at h
    have e : a = b := by
      apply Vector.ext
      intro i hi
      have := h i (by simpa using hi)
      rw [getD_lab _ _ hi, getD_lab _ _ hi] at this
      simpa using this
    subst e
    simp [ord, com_self]
  | some i =>
    obtain ⟨h1, us, vs, h2, h3⟩ := List.find?_eq_some_iff_append.1 h
    have hr : List.range (min 32 32) = List.range 32 := rfl
    rw [hr] at h2
    have hi : i < 32 := by
      have : i ∈ List.range 32 := by rw [h2]; simp
      simpa using this
    have hlen : us.length = i := by
      have h5 : (List.range 32)[us.length]? = some i := by rw [h2]; simp
      have h6 : us.length < 32 := by have := congrArg List.length h2; simp at this; omega
      rw [List.getElem?_range h6] at h5
      exact Option.some.inj h5
    have heq : ∀ (j : Nat) (hj : j < i), a[j]'(by omega) = b[j]'(by omega) := fun j hj => by
      have hm : j ∈ us := by
        have := congrArg (·[j]?) h2
        simp only [List.getElem?_append_left (show j < us.length by omega)] at this
        rw [List.getElem?_range (by omega)] at this
        exact List.mem_of_getElem? this.symm
      have := h3 j hm
      rw [getD_lab _ _ (by omega), getD_lab _ _ (by omega)] at this
      simpa using this
    rw [getD_lab _ _ hi, getD_lab _ _ hi] at h1
    have hne : a[i] ^^^ b[i] ≠ 0 := by
      intro e
      have : a[i] = b[i] := UInt8.xor_eq_zero_iff.1 e
      simp [this] at h1
    obtain ⟨n, hn, h0, hb⟩ := lz8 _ hne
    have hx : ∀ k, k < 8 → bt8 (a[i] ^^^ b[i]) k = (bt8 a[i] k ^^ bt8 b[i] k) := fun k hk => bt8_xor _ _ _ hk
    have hcom : com a b = 8 * i + n := by
      refine com_eq (by omega) (fun k hk => ?_) (fun _ => ?_)
      · rcases Nat.lt_or_ge k (8 * i) with c | c
        · rw [bt_byte _ _ (by omega), bt_byte _ _ (by omega), heq _ (by omega)]
        · have := hx (k - 8 * i) (by omega)
          rw [h0 _ (by omega)] at this
          have e : k = 8 * i + (k - 8 * i) := by omega
          rw [e, bt_at _ _ _ hi (by omega), bt_at _ _ _ hi (by omega)]
          revert this; cases bt8 a[i] (k - 8 * i) <;> cases bt8 b[i] (k - 8 * i) <;> simp
      · rw [bt_at _ _ _ hi hn, bt_at _ _ _ hi hn]
        have := hx n hn
        rw [hb] at this
        intro e; rw [e] at this; simp at this
    have hpre : ∀ k, k < n → bt8 a[i] k = bt8 b[i] k := fun k hk => by
      have := hx k (by omega)
      rw [h0 k hk] at this
      revert this; cases bt8 a[i] k <;> cases bt8 b[i] k <;> simp
    have hlast := hx n hn
    rw [hb] at hlast
    simp only
    rw [getD_lab _ _ hi, getD_lab _ _ hi]
    unfold ord
    rw [hcom, if_neg (show ¬ 8 * i + n = 256 by omega), bt_at _ _ _ hi hn]
    cases q : bt8 a[i] n with
    | false =>
      rw [q] at hlast
      rw [if_pos (u8_lt_of _ _ n hn hpre q (by simpa using hlast.symm))]; rfl
    | true =>
      rw [q] at hlast
      have := u8_lt_of b[i] a[i] n hn (fun k hk => (hpre k hk).symm) (by simpa using hlast.symm) q
      rw [if_neg (by rw [UInt8.lt_iff_toNat_lt] at *; omega)]; rfl
theorem bits_Order_eq (a b : Lab) : bits_Order a b = some (ord a b) := by
  unfold bits_Order bytes_Compare; rw [some_bind, cmpB_ord]

/-! ### beginnings -/
def clampN (n : Int) : Nat := (max 0 (min n 256)).toNat
theorem clampN_le (n : Int) : clampN n ≤ 256 := by unfold clampN; omega
theorem clampN_cast (n : Int) : max 0 (min n 256) = (clampN n : Int) := by unfold clampN; omega
theorem bt8_mask (x : UInt8) (m k : Nat) (hm : m < 8) (hk : k < 8) : bt8 (x &&& ~~~(hr_u8 255 (m : Int))) k = (decide (k < m) && bt8 x k) := by
  rw [bt8_and _ _ _ hk, Bool.and_comm]
  congr 1
  have key : ∀ m k : Fin 8, bt8 (~~~(hr_u8 255 ((m.1 : Nat) : Int))) k.1 = decide (k.1 < m.1) := by decide
  exact key ⟨m, hm⟩ ⟨k, hk⟩
theorem overV_take (l : Lab) (n : Nat) (hn : n ≤ 32) (i : Nat) (hi : i < 32) : (overV zL (l.toList.take n))[i] = if i < n then l[i] else 0 := by
  have e : (overV zL (l.toList.take n))[i] = (overV zL (l.toList.take n)).toList[i]'(by simp [hi]) := by simp
  rw [e]
  simp only [overV_toList, overL]
  rw [List.getElem_append]
  simp only [List.length_take, Vector.length_toList, List.getElem_take, List.getElem_drop]
  by_cases h : i < n
  · rw [dif_pos (by omega), if_pos h]; simp
  · rw [dif_neg (by omega), if_neg h, Vector.getElem_toList]; exact zL_get _ _
theorem bits_Cut_eq (l : Lab) (n : Int) : bits_Cut l n = some ⟨(clampN n : Int), cut l (clampN n)⟩ := by
  have hc := clampN_le n
  unfold bits_Cut
  simp only [clampN_cast]
  generalize clampN n = c at hc
  rw [tdiv8 hc, tmod8, req_t (by omega)]
  simp only [Int.toNat_natCast]
  rw [req_t (by rw [List.length_take, Vector.length_toList]; omega)]
  by_cases h : c % 8 = 0
  · have : ((((c % 8 : Nat)) : Int) != 0) = false := by simp [h]
    simp only [this, Bool.false_eq_true, if_false]
    refine congrArg (fun z : Lab => some (⟨(c : Int), z⟩ : Pfx)) (lab_ext fun i hi => ?_)
    rw [bt_cut, bt_byte _ _ hi, bt_byte _ _ hi, overV_take _ _ (by omega) _ (by omega)]
    by_cases q : i < c
    · rw [if_pos (by omega)]; simp [q]
    · rw [if_neg (by omega)]; simp [q, bt8_zero]
  · have : ((((c % 8 : Nat)) : Int) != 0) = true := by simp; omega
    simp only [this, if_true]
    have hj : c / 8 < 32 := by omega
    rw [req_t (by omega), req_t (by omega), req_t (by omega)]
    rw [setV_nat _ _ _ hj, getV_nat _ _ hj]
    refine congrArg (fun z : Lab => some (⟨(c : Int), z⟩ : Pfx)) (lab_ext fun i hi => ?_)
    rw [bt_cut, bt_byte _ _ hi, bt_byte _ _ hi]
    rw [Vector.getElem_set]
    by_cases q : c / 8 = i / 8
    · rw [if_pos q, bt8_mask _ _ _ (by omega) (by omega)]
      congr 1
      · congr 1; simp; omega
      · congr 1; simp [q]
    · rw [if_neg q, overV_take _ _ (by omega) _ (by omega)]
      by_cases q2 : i < c
      · rw [if_pos (by omega)]; simp [q2]
      · rw [if_neg (by omega)]; simp [q2, bt8_zero]
theorem clampN_id {n : Int} (h : 0 ≤ n ∧ n ≤ 256) : (clampN n : Int) = n ∧ clampN n = n.toNat := by unfold clampN; omega
theorem bits_Good_eq (p : Pfx) : bits_Good p = some (goodB p.len p.bits) := by
  unfold bits_Good goodB
  rw [bits_Cut_eq]
  by_cases h1 : 0 ≤ p.len
  · by_cases h2 : p.len ≤ 256
    · obtain ⟨e1, e2⟩ := clampN_id ⟨h1, h2⟩
      simp only [h1, h2, decide_true, if_true, some_bind, and_self, Bool.true_and, e1, beq_self_eq_true, Bool.and_true]
      rw [← e2]
    · simp [h1, h2]
  · simp [h1]
def hasB (n : Int) (p l : Lab) : Bool := goodB n p && decide (n ≤ (com p l : Int))
theorem bits_Has_eq (p : Pfx) (l : Lab) : bits_Prefix_Has p l = some (hasB p.len p.bits l) := by
  unfold bits_Prefix_Has hasB
  rw [bits_Good_eq, some_bind, bits_Common_eq]
  cases goodB p.len p.bits <;> simp
def overB (n : Int) (p : Lab) (m : Int) (q : Lab) : Bool := goodB m q && decide (n ≤ m) && hasB n p q
theorem bits_Over_eq (p q : Pfx) : bits_Prefix_Over p q = some (overB p.len p.bits q.len q.bits) := by
  unfold bits_Prefix_Over overB
  rw [bits_Good_eq, some_bind, bits_Has_eq]
  cases goodB q.len q.bits <;> cases decide (p.len ≤ q.len) <;> simp
end
end Go.Ch
end
section
/- What the document's functions on bits come to. -/
set_option linter.unusedVariables false
set_option linter.unusedSimpArgs false
namespace Go.Ch
open Go.RowKit (wrap64)
noncomputable section

theorem bt8_set (x : UInt8) (k m : Nat) (hk : k < 8) (hm : m < 8) (h : bt8 x k = false) : bt8 (x + UInt8.ofNat (2 ^ (7 - k))) m = (decide (m = k) || bt8 x m) := by
  have e : x + UInt8.ofNat (2 ^ (7 - k)) = mk8 fun m => decide (m = k) || bt8 x m := by
    apply UInt8.toNat_inj.1
    unfold mk8
    have hb : ∀ b : Bool, b.toNat ≤ 1 := fun b => by cases b <;> simp
    have b0 := hb (bt8 x 0); have b1 := hb (bt8 x 1); have b2 := hb (bt8 x 2); have b3 := hb (bt8 x 3); have b4 := hb (bt8 x 4); have b5 := hb (bt8 x 5); have b6 := hb (bt8 x 6); have b7 := hb (bt8 x 7)
    have ex := u8_bits_sum x
    have hk' : k = 0 ∨ k = 1 ∨ k = 2 ∨ k = 3 ∨ k = 4 ∨ k = 5 ∨ k = 6 ∨ k = 7 := by omega
    rcases hk' with rfl | rfl | rfl | rfl | rfl | rfl | rfl | rfl <;> simp [UInt8.toNat_add, h] at ex ⊢ <;> omega
  rw [e, bt8_mk8 _ _ hm]
theorem bt_setV (l : Lab) (i j : Nat) (hi : i < 256) (hj : j < 256) (h : bt l i = false) : bt (setV l ((i / 8 : Nat) : Int) (getV l ((i / 8 : Nat) : Int) + UInt8.ofNat (2 ^ (7 - i % 8)))) j = (decide (j = i) || bt l j) := by
  rw [setV_nat _ _ _ (by omega), getV_nat _ _ (by omega), bt_byte _ _ hj, bt_byte l _ hj, Vector.getElem_set]
  rw [bt_byte _ _ hi] at h
  by_cases q : i / 8 = j / 8
  · rw [if_pos q, bt8_set _ _ _ (by omega) (by omega) h]
    congr 1
    · congr 1; simp; omega
    · congr 1; simp [q]
  · rw [if_neg q]
    have : decide (j = i) = false := by simp; rintro rfl; exact q rfl
    rw [this]; rfl
theorem r01_Set_eq (l : Lab) (i : Nat) (hi : i < 256) (h : bt l i = false) : r01_Set l (i : Int) = some (setV l ((i / 8 : Nat) : Int) (getV l ((i / 8 : Nat) : Int) + UInt8.ofNat (2 ^ (7 - i % 8)))) := by
  unfold r01_Set
  rw [tmod8]
  have hit := iter_to (step := r01_Set_s1) (fun k => (((i % 8 + k : Nat) : Int), UInt8.ofNat (2 ^ k))) (7 - i % 8) (b := (7, UInt8.ofNat (2 ^ (7 - i % 8)))) (fun k hk => ?_) ?_
  · simp only [Nat.add_zero, Nat.pow_zero] at hit
    rw [show (1 : UInt8) = UInt8.ofNat 1 from rfl, hit, some_bind]
    simp only [r01_Bit_eq, bitI_nat, some_bind, h]
    rw [tdiv8 (by omega)]
    simp only [b01, Bool.false_eq_true, if_false, beq_self_eq_true, if_true]
    rw [req_t (by omega), req_t (by omega)]
  · have h7 : ((i % 8 + k : Nat) : Int) < 7 := by omega
    simp only [r01_Set_s1, dec_t h7, if_true]
    rw [wrap_id (by omega)]
    have : (2 : UInt8) * UInt8.ofNat (2 ^ k) = UInt8.ofNat (2 ^ (k + 1)) := by
      rw [Nat.pow_succ, Nat.mul_comm, UInt8.ofNat_mul]; rfl
    rw [this]; rfl
  · have h7 : ¬ ((i % 8 + (7 - i % 8) : Nat) : Int) < 7 := by omega
    simp only [r01_Set_s1, dec_f h7, Bool.false_eq_true, if_false]
    congr 3; omega
theorem cut_zero (l : Lab) : cut l 0 = zL := lab_ext fun i hi => by rw [bt_cut, bt_zL]; simp
theorem cut_succ_t (l : Lab) (n : Nat) (hn : n < 256) (h : bt l n = true) : setV (cut l n) ((n / 8 : Nat) : Int) (getV (cut l n) ((n / 8 : Nat) : Int) + UInt8.ofNat (2 ^ (7 - n % 8))) = cut l (n + 1) := lab_ext fun i hi => by
  rw [bt_setV _ _ _ hn hi (by rw [bt_cut]; simp), bt_cut, bt_cut]
  by_cases c : i = n
  · subst c; simp [h]
  · simp [c]; congr 1; simp; omega
theorem cut_succ_f (l : Lab) (n : Nat) (hn : n < 256) (h : bt l n = false) : cut l n = cut l (n + 1) := lab_ext fun i hi => by
  rw [bt_cut, bt_cut]
  by_cases c : i = n
  · subst c; simp [h]
  · congr 1; simp; omega
theorem r01_Cut_eq (l : Lab) (n : Int) : r01_Cut l n = some (cut l (clampN n)) := by
  have hc := clampN_le n
  unfold r01_Cut
  have hit := iter_to (step := r01_Cut_s1 l n) (fun k => ((k : Int), cut l k)) (clampN n) (b := ((clampN n : Int), cut l (clampN n))) (fun k hk => ?_) ?_
  · simp only [cut_zero] at hit
    rw [show ((0 : Int)) = ((0 : Nat) : Int) from rfl, hit, some_bind]
  · have hk1 : (k : Int) < n := by unfold clampN at hk; omega
    have hk2 : (k : Int) < 256 := by omega
    simp only [r01_Cut_s1, dec_t hk1, dec_t hk2, if_true, some_bind, r01_Bit_eq, bitI_nat]
    rw [wrap_id (by omega)]
    cases hb : bt l k with
    | true =>
      simp only [b01_one, if_true]
      rw [r01_Set_eq _ _ (by omega) (by rw [bt_cut]; simp), some_bind, cut_succ_t _ _ (by omega) hb]
      rfl
    | false =>
      simp only [b01_one, Bool.false_eq_true, if_false]
      rw [← cut_succ_f _ _ (by omega) hb]
      rfl
  · simp only [r01_Cut_s1]
    by_cases h1 : ((clampN n : Nat) : Int) < n
    · have h2 : ¬ ((clampN n : Nat) : Int) < 256 := by unfold clampN at *; omega
      simp only [dec_t h1, dec_f h2, if_true, some_bind, Bool.false_eq_true, if_false]
    · simp only [dec_f h1, Bool.false_eq_true, if_false, some_bind]
theorem r01_Good_eq (n : Int) (l : Lab) : r01_Good n l = some (goodB n l) := by
  unfold r01_Good goodB
  rw [r01_Cut_eq]
  by_cases h1 : 0 ≤ n
  · by_cases h2 : n ≤ 256
    · obtain ⟨e1, e2⟩ := clampN_id ⟨h1, h2⟩
      simp [h1, h2, e2]
    · simp [h1, h2]
  · simp [h1]
/-- Of an item in form the two 'has' are one. -/
theorem has_same {n : Int} {p l : Lab} (h : goodB n p = true) : (cut l (clampN n) == p) = hasB n p l := by
  obtain ⟨h1, h2, h3⟩ := good_iff.1 h
  have e := cut_is (l := l) h
  rw [(clampN_id ⟨h1, h2⟩).2]
  unfold hasB
  rw [h, Bool.true_and]
  by_cases c : n ≤ (com p l : Int)
  · simp [c, e.2 c]
  · have : ¬ cut l n.toNat = p := fun q => c (e.1 q)
    simp [c, this]
end
end Go.Ch
end
section
/- The sums: both come to one thing. -/
set_option linter.unusedVariables false
set_option linter.unusedSimpArgs false
namespace Go.Ch
open Go.RowKit (wrap64)
noncomputable section

/-- Two loops that do the same, over a stretch of rounds. -/
theorem iter_two {σ : Type} {step step' : Int × σ → Option ((Int × σ) ⊕ (Int × σ))} (n : Nat)
    (e : ∀ s, step ((n : Int), s) = some (.inr ((n : Int), s)) ∧ step' ((n : Int), s) = some (.inr ((n : Int), s))) :
    ∀ (d m : Nat), m + d = n → (∀ k s, m ≤ k → k < n → ∃ s', step ((k : Int), s) = some (.inl (((k + 1 : Nat) : Int), s')) ∧ step' ((k : Int), s) = some (.inl (((k + 1 : Nat) : Int), s'))) →
      ∀ s, ∃ r, iter step ((m : Int), s) = some ((n : Int), r) ∧ iter step' ((m : Int), s) = some ((n : Int), r)
  | 0, m, hm, h, s => by
    have : m = n := by omega
    subst this
    exact ⟨s, iter_end (e s).1, iter_end (e s).2⟩
  | d + 1, m, hm, h, s => by
    obtain ⟨s', h1, h2⟩ := h m s (Nat.le_refl _) (by omega)
    obtain ⟨r, h3, h4⟩ := iter_two n e d (m + 1) (by omega) (fun k s hk hk2 => h k s (by omega) hk2) s'
    exact ⟨r, iter_next h1 h3, iter_next h2 h4⟩

/-! ### words -/
def rot (x : UInt32) (n : Nat) : UInt32 := hr_u32 x n ||| hl_u32 x ((32 - n : Nat) : Int)
theorem turn_eq (x : UInt32) (n : Nat) (h0 : 0 < n) (h : n < 32) : sha_turn x (n : Int) = some (rot x n) := by
  unfold sha_turn bits_RotateLeft32
  rw [some_bind]
  have key : ∀ n : Fin 32, 0 < n.1 → (u64I (wrap64 (-((n.1 : Nat) : Int))) &&& 31).toNat = 32 - n.1 ∧ (32 - (u64I (wrap64 (-((n.1 : Nat) : Int))) &&& 31)).toNat = n.1 := by decide +kernel
  obtain ⟨h1, h2⟩ := key ⟨n, h⟩ h0
  simp only at h1 h2
  rw [h1, h2]
  unfold rot
  rw [UInt32.or_comm]
theorem right_eq (x : UInt32) (n : Nat) (h0 : 0 < n) (h : n < 32) : r03_right x (n : Int) = some (rot x n) := by
  unfold r03_right
  rw [wrap_id (by omega), req_t (by omega), req_t (by omega)]
  unfold rot
  rw [show ((32 : Int) - (n : Int)) = ((32 - n : Nat) : Int) by omega]
theorem hl_byte (a : UInt8) (k : Nat) (h : k ≤ 24) : (hl_u32 a.toUInt32 (k : Int)).toNat = a.toNat * 2 ^ k := by
  unfold hl_u32
  have ha := a.toNat_lt
  have e : min ((k : Int)).toNat 32 = k := by omega
  rw [e, UInt8.toNat_toUInt32, UInt32.toNat_ofNat_of_lt']
  show _ < 2 ^ 32
  have h1 : 2 ^ k ≤ 2 ^ 24 := Nat.pow_le_pow_right (by omega) h
  calc a.toNat * 2 ^ k ≤ 255 * 2 ^ 24 := Nat.mul_le_mul (by omega) h1
    _ < 2 ^ 32 := by decide
theorem or_add (a b k : Nat) (h : b < 2 ^ k) : a * 2 ^ k ||| b = a * 2 ^ k + b := by
  rw [Nat.mul_comm, Nat.two_pow_add_eq_or_of_lt h]
theorem word_eq (a b c d : UInt8) : (((hl_u32 a.toUInt32 24) ||| (hl_u32 b.toUInt32 16)) ||| (hl_u32 c.toUInt32 8)) ||| d.toUInt32 =
    (((hl_u32 (a.toUInt32 * 1) 24) + (hl_u32 (b.toUInt32 * 1) 16)) + (hl_u32 (c.toUInt32 * 1) 8)) + d.toUInt32 := by
  have h1 : ∀ x : UInt32, x * 1 = x := fun x => UInt32.mul_one x
  rw [h1, h1, h1]
  apply UInt32.toNat_inj.1
  have ea := hl_byte a 24 (by omega)
  have eb := hl_byte b 16 (by omega)
  have ec := hl_byte c 8 (by omega)
  have ha := a.toNat_lt
  have hb := b.toNat_lt
  have hc := c.toNat_lt
  have hd := d.toNat_lt
  simp only [Int.cast_ofNat_Int] at ea eb ec
  rw [UInt32.toNat_or, UInt32.toNat_or, UInt32.toNat_or, UInt32.toNat_add, UInt32.toNat_add, UInt32.toNat_add]
  rw [ea, eb, ec, UInt8.toNat_toUInt32]
  have o1 : a.toNat * 2 ^ 24 ||| b.toNat * 2 ^ 16 = (a.toNat * 2 ^ 8 + b.toNat) * 2 ^ 16 := by
    rw [or_add _ _ 24 (by omega)]; omega
  have o2 : (a.toNat * 2 ^ 8 + b.toNat) * 2 ^ 16 ||| c.toNat * 2 ^ 8 = ((a.toNat * 2 ^ 8 + b.toNat) * 2 ^ 8 + c.toNat) * 2 ^ 8 := by
    rw [or_add _ _ 16 (by omega)]; omega
  rw [o1, o2, or_add _ _ 8 (by omega)]
  omega
theorem compl_eq (x : UInt32) : 4294967295 - x = ~~~x := by
  apply UInt32.toBitVec_inj.1
  rw [UInt32.toBitVec_not, UInt32.toBitVec_sub]
  apply BitVec.eq_of_toNat_eq
  rw [BitVec.toNat_sub, BitVec.toNat_not]
  have := x.toBitVec.isLt
  show (2 ^ 32 - x.toBitVec.toNat + 4294967295) % 2 ^ 32 = 2 ^ 32 - 1 - x.toBitVec.toNat
  omega
theorem ch_eq (e f g : UInt32) : ((e &&& f) ||| ((4294967295 - e) &&& g)) = ((e &&& f) ^^^ ((~~~e) &&& g)) := by
  rw [compl_eq]
  apply UInt32.toBitVec_inj.1
  simp only [UInt32.toBitVec_or, UInt32.toBitVec_and, UInt32.toBitVec_xor, UInt32.toBitVec_not]
  apply BitVec.eq_of_getLsbD_eq
  intro i hi
  simp only [BitVec.getLsbD_or, BitVec.getLsbD_and, BitVec.getLsbD_xor, BitVec.getLsbD_not, hi, decide_true, Bool.true_and]
  cases e.toBitVec.getLsbD i <;> cases f.toBitVec.getLsbD i <;> cases g.toBitVec.getLsbD i <;> rfl
theorem maj_eq (a b c : UInt32) : (((a &&& b) ||| (a &&& c)) ||| (b &&& c)) = (((a &&& b) ^^^ (a &&& c)) ^^^ (b &&& c)) := by
  apply UInt32.toBitVec_inj.1
  simp only [UInt32.toBitVec_or, UInt32.toBitVec_and, UInt32.toBitVec_xor]
  apply BitVec.eq_of_getLsbD_eq
  intro i hi
  simp only [BitVec.getLsbD_or, BitVec.getLsbD_and, BitVec.getLsbD_xor]
  cases a.toBitVec.getLsbD i <;> cases b.toBitVec.getLsbD i <;> cases c.toBitVec.getLsbD i <;> rfl

theorem turn' (x : UInt32) : sha_turn x 6 = some (rot x 6) ∧ sha_turn x 11 = some (rot x 11) ∧ sha_turn x 25 = some (rot x 25) ∧ sha_turn x 2 = some (rot x 2) ∧ sha_turn x 13 = some (rot x 13) ∧ sha_turn x 22 = some (rot x 22) ∧ sha_turn x 7 = some (rot x 7) ∧ sha_turn x 18 = some (rot x 18) ∧ sha_turn x 17 = some (rot x 17) ∧ sha_turn x 19 = some (rot x 19) :=
  ⟨turn_eq x 6 (by omega) (by omega), turn_eq x 11 (by omega) (by omega), turn_eq x 25 (by omega) (by omega), turn_eq x 2 (by omega) (by omega), turn_eq x 13 (by omega) (by omega), turn_eq x 22 (by omega) (by omega), turn_eq x 7 (by omega) (by omega), turn_eq x 18 (by omega) (by omega), turn_eq x 17 (by omega) (by omega), turn_eq x 19 (by omega) (by omega)⟩
theorem right' (x : UInt32) : r03_right x 6 = some (rot x 6) ∧ r03_right x 11 = some (rot x 11) ∧ r03_right x 25 = some (rot x 25) ∧ r03_right x 2 = some (rot x 2) ∧ r03_right x 13 = some (rot x 13) ∧ r03_right x 22 = some (rot x 22) ∧ r03_right x 7 = some (rot x 7) ∧ r03_right x 18 = some (rot x 18) ∧ r03_right x 17 = some (rot x 17) ∧ r03_right x 19 = some (rot x 19) :=
  ⟨right_eq x 6 (by omega) (by omega), right_eq x 11 (by omega) (by omega), right_eq x 25 (by omega) (by omega), right_eq x 2 (by omega) (by omega), right_eq x 13 (by omega) (by omega), right_eq x 22 (by omega) (by omega), right_eq x 7 (by omega) (by omega), right_eq x 18 (by omega) (by omega), right_eq x 17 (by omega) (by omega), right_eq x 19 (by omega) (by omega)⟩

/-! ### a block -/
theorem words_one (b : List UInt8) (hb : b.length = 64) (s : Vector UInt32 64) : ∃ r, iter (sha_state_mix_s1 b) (0, s) = some (16, r) ∧ iter (r03_Words_s1 b) (0, s) = some (16, r) := by
  refine iter_two 16 (fun s => ⟨rfl, rfl⟩) 16 0 rfl (fun k s _ hk => ?_) s
  have h1 : (k : Int) < 16 := by omega
  apply Exists.intro; apply And.intro
  · simp only [sha_state_mix_s1, dec_t h1, if_true]
    rw [wrap_id (n := (4 : Int) * k) (by omega), wrap_id (n := (4 : Int) * k + 1) (by omega), wrap_id (n := (4 : Int) * k + 2) (by omega), wrap_id (n := (4 : Int) * k + 3) (by omega)]
    rw [req_t (by rw [lenI, hb]; omega), req_t (by rw [lenI, hb]; omega), req_t (by rw [lenI, hb]; omega), req_t (by rw [lenI, hb]; omega), req_t (by omega), wrap_id (by omega)]
    rfl
  · simp only [r03_Words_s1, dec_t h1, if_true]
    rw [wrap_id (n := (4 : Int) * k) (by omega), wrap_id (n := (4 : Int) * k + 1) (by omega), wrap_id (n := (4 : Int) * k + 2) (by omega), wrap_id (n := (4 : Int) * k + 3) (by omega)]
    rw [req_t (by rw [lenI, hb]; omega), req_t (by rw [lenI, hb]; omega), req_t (by rw [lenI, hb]; omega), req_t (by rw [lenI, hb]; omega), req_t (by omega), wrap_id (by omega), ← word_eq]
    rfl
theorem words_two (s : Vector UInt32 64) : ∃ r, iter sha_state_mix_s2 (16, s) = some (64, r) ∧ iter r03_Words_s2 (16, s) = some (64, r) := by
  refine iter_two 64 (fun s => ⟨rfl, rfl⟩) 48 16 rfl (fun k s hk0 hk => ?_) s
  have h1 : (k : Int) < 64 := by omega
  apply Exists.intro; apply And.intro
  · simp only [sha_state_mix_s2, dec_t h1, if_true]
    rw [wrap_id (n := (k : Int) - 15) (by omega), wrap_id (n := (k : Int) - 2) (by omega), wrap_id (n := (k : Int) - 16) (by omega), wrap_id (n := (k : Int) - 7) (by omega)]
    obtain ⟨_, _, _, _, _, _, t7, t18, _, _⟩ := turn' (getV s ((k : Int) - 15))
    obtain ⟨_, _, _, _, _, _, _, _, t17, t19⟩ := turn' (getV s ((k : Int) - 2))
    rw [req_t (by omega), req_t (by omega), req_t (by omega), t7, some_bind, t18, some_bind, req_t (by omega), t17, some_bind, t19, some_bind, req_t (by omega), wrap_id (by omega)]
    rfl
  · simp only [r03_Words_s2, dec_t h1, if_true]
    rw [wrap_id (n := (k : Int) - 15) (by omega), wrap_id (n := (k : Int) - 2) (by omega), wrap_id (n := (k : Int) - 16) (by omega), wrap_id (n := (k : Int) - 7) (by omega)]
    obtain ⟨_, _, _, _, _, _, t7, t18, _, _⟩ := right' (getV s ((k : Int) - 15))
    obtain ⟨_, _, _, _, _, _, _, _, t17, t19⟩ := right' (getV s ((k : Int) - 2))
    rw [req_t (by omega), t7, some_bind, req_t (by omega), t18, some_bind, req_t (by omega), req_t (by omega), t17, some_bind, req_t (by omega), t19, some_bind, req_t (by omega), req_t (by omega), req_t (by omega), req_t (by omega), wrap_id (by omega)]
    rfl
theorem rounds (kk w : Vector UInt32 64) (s : Vector UInt32 8) : ∃ r, iter (sha_state_mix_s3 kk w) (0, s) = some (64, r) ∧ iter (r03_Sum_s2 kk w) (0, s) = some (64, r) := by
  refine iter_two 64 (fun s => ⟨rfl, rfl⟩) 64 0 rfl (fun k s hk0 hk => ?_) s
  have h1 : (k : Int) < 64 := by omega
  apply Exists.intro; apply And.intro
  · simp only [sha_state_mix_s3, dec_t h1, if_true]
    obtain ⟨t6, t11, t25, _⟩ := turn' (getV s 4)
    obtain ⟨_, _, _, t2, t13, t22, _⟩ := turn' (getV s 0)
    rw [t6, some_bind, t11, some_bind, t25, some_bind, req_t (by omega), req_t (by omega), t2, some_bind, t13, some_bind, t22, some_bind, wrap_id (by omega)]
    rfl
  · simp only [r03_Sum_s2, dec_t h1, if_true]
    obtain ⟨t6, t11, t25, _⟩ := right' (getV s 4)
    obtain ⟨_, _, _, t2, t13, t22, _⟩ := right' (getV s 0)
    rw [t6, some_bind, t11, some_bind, t25, some_bind, req_t (by omega), req_t (by omega), t2, some_bind, t13, some_bind, t22, some_bind, wrap_id (by omega)]
    simp only [UInt32.add_assoc, ch_eq, maj_eq]
    rfl
theorem sums (x : Vector UInt32 8) (s : Vector UInt32 8) : ∃ r, iter (sha_state_mix_s4 x) (0, s) = some (8, r) ∧ iter (r03_Sum_s3 x) (0, s) = some (8, r) := by
  refine iter_two 8 (fun s => ⟨rfl, rfl⟩) 8 0 rfl (fun k s hk0 hk => ?_) s
  have h1 : (k : Int) < 8 := by omega
  apply Exists.intro; apply And.intro
  · simp only [sha_state_mix_s4, dec_t h1, if_true]
    rw [req_t (by omega), req_t (by omega), req_t (by omega), wrap_id (by omega)]
    rfl
  · simp only [r03_Sum_s3, dec_t h1, if_true]
    rw [req_t (by omega), req_t (by omega), req_t (by omega), wrap_id (by omega)]
    rfl
theorem outs (x : Vector UInt32 8) (s : Lab) : ∃ r, iter (sha_Sum_s4 x) (0, s) = some (32, r) ∧ iter (r03_Sum_s4 x) (0, s) = some (32, r) := by
  refine iter_two 32 (fun s => ⟨by simp only [sha_Sum_s4]; rw [dec_f (by omega), if_neg (by simp)], by simp only [r03_Sum_s4]; rw [dec_f (by omega), if_neg (by simp)]⟩) 32 0 rfl (fun k s hk0 hk => ?_) s
  have h1 : (k : Int) < 32 := by omega
  have hd : Int.tdiv (k : Int) 4 = ((k / 4 : Nat) : Int) := by rw [Int.tdiv_eq_ediv_of_nonneg (by omega)]; omega
  have hm : Int.tmod (k : Int) 4 = ((k % 4 : Nat) : Int) := by rw [Int.tmod_eq_emod_of_nonneg (by omega)]; omega
  apply Exists.intro; apply And.intro
  · simp only [sha_Sum_s4, dec_t h1, if_true, hd, hm]
    rw [wrap_id (n := ((k / 4 : Nat) : Int)) (by omega), wrap_id (n := (8 : Int) * ((k % 4 : Nat) : Int)) (by omega), wrap_id (n := (24 : Int) - (8 : Int) * ((k % 4 : Nat) : Int)) (by omega)]
    rw [req_t (by omega), req_t (by omega), req_t (by omega), wrap_id (by omega)]
    rfl
  · simp only [r03_Sum_s4, dec_t h1, if_true, hd, hm]
    rw [Int.mul_comm ((k % 4 : Nat) : Int) 8]
    rw [wrap_id (n := ((k / 4 : Nat) : Int)) (by omega), wrap_id (n := (8 : Int) * ((k % 4 : Nat) : Int)) (by omega), wrap_id (n := (24 : Int) - (8 : Int) * ((k % 4 : Nat) : Int)) (by omega)]
    rw [req_t (by omega), req_t (by omega), req_t (by omega), wrap_id (by omega)]
    rfl
/-- A block is taken in: both ways. -/
theorem block_eq (v : Vector UInt32 8) (b : List UInt8) (hb : b.length = 64) (kk : Vector UInt32 64) : ∃ r w x, sha_state_mix v b kk = some r ∧ r03_Words b = some w ∧ iter (r03_Sum_s2 kk w) (0, v) = some (64, x) ∧ iter (r03_Sum_s3 x) (0, v) = some (8, r) := by
  obtain ⟨w1, a1, b1⟩ := words_one b hb (Vector.replicate 64 0)
  obtain ⟨w2, a2, b2⟩ := words_two w1
  obtain ⟨x, a3, b3⟩ := rounds kk w2 v
  obtain ⟨r, a4, b4⟩ := sums x v
  refine ⟨r, w2, x, ?_, ?_, b3, b4⟩
  · unfold sha_state_mix
    rw [a1, some_bind]; dsimp only
    rw [a2, some_bind]; dsimp only
    rw [a3, some_bind]; dsimp only
    rw [a4, some_bind]
  · unfold r03_Words
    rw [b1, some_bind]; dsimp only
    rw [b2, some_bind]

/-! ### the whole -/
theorem pad_some (l : List UInt8) (hl : l.length ≤ 100000000) : ∃ z, (l.length + z) % 64 = 56 ∧ z < 64 ∧ iter sha_Sum_s1 l = some (l ++ List.replicate z 0) := by
  have hz : ∃ z, (l.length + z) % 64 = 56 ∧ z < 64 := ⟨(120 - l.length % 64) % 64, by omega, by omega⟩
  obtain ⟨z, ⟨h1, h2⟩, h3⟩ := exists_least _ hz
  refine ⟨z, h1, h2, ?_⟩
  have := iter_to (step := sha_Sum_s1) (fun k => l ++ List.replicate k 0) z (b := l ++ List.replicate z 0) (fun k hk => ?_) ?_
  · simpa using this
  · have hne : (l.length + k) % 64 ≠ 56 := fun e => h3 k hk ⟨e, by omega⟩
    have hl2 : lenI (l ++ List.replicate k (0 : UInt8)) = ((l.length + k : Nat) : Int) := by simp [lenI]
    have : (Int.tmod (lenI (l ++ List.replicate k (0 : UInt8))) 64 != 56) = true := by
      rw [hl2, Int.tmod_eq_emod_of_nonneg (by omega)]; simp; omega
    simp only [sha_Sum_s1, this, if_true]
    rw [req_t (by simp [LIM]; omega), List.replicate_succ', List.append_assoc]
  · have hl2 : lenI (l ++ List.replicate z (0 : UInt8)) = ((l.length + z : Nat) : Int) := by simp [lenI]
    have : (Int.tmod (lenI (l ++ List.replicate z (0 : UInt8))) 64 != 56) = false := by
      rw [hl2, Int.tmod_eq_emod_of_nonneg (by omega)]; simp; omega
    simp only [sha_Sum_s1, this, Bool.false_eq_true, if_false]
def tail8 (n : UInt64) (k : Nat) : List UInt8 := (List.range k).map fun i => (hr_u64 n ((56 - 8 * i : Nat) : Int)).toUInt8
theorem tail8_succ (n : UInt64) (k : Nat) : tail8 n (k + 1) = tail8 n k ++ [(hr_u64 n ((56 - 8 * k : Nat) : Int)).toUInt8] := by
  unfold tail8; rw [List.range_succ, List.map_append]; rfl
theorem tail_one (a l : Str) (hl : l.length ≤ 200000000) : iter (sha_Sum_s2 a) (56, l) = some (-8, l ++ tail8 (8 * u64I (lenI a)) 8) := by
  have := iter_to (step := sha_Sum_s2 a) (fun k => ((56 : Int) - 8 * (k : Int), l ++ tail8 (8 * u64I (lenI a)) k)) 8 (b := (-8, l ++ tail8 (8 * u64I (lenI a)) 8)) (fun k hk => ?_) ?_
  · rw [show l ++ tail8 (8 * u64I (lenI a)) 0 = l by simp [tail8]] at this
    exact this
  · have h1 : (0 : Int) ≤ 56 - 8 * (k : Int) := by omega
    simp only [sha_Sum_s2, dec_t h1, if_true]
    rw [req_t h1, req_t (by simp [tail8, LIM]; omega), wrap_id (by omega), tail8_succ, List.append_assoc]
    rw [show (56 : Int) - 8 * (k : Int) = ((56 - 8 * k : Nat) : Int) by omega]
    congr 3
    omega
  · rfl
theorem tail_two (a l : Str) (hl : l.length ≤ 200000000) : iter (r03_Padded_s2 a) (0, l) = some (8, l ++ tail8 (8 * u64I (lenI a)) 8) := by
  have := iter_to (step := r03_Padded_s2 a) (fun k => ((k : Int), l ++ tail8 (8 * u64I (lenI a)) k)) 8 (b := (8, l ++ tail8 (8 * u64I (lenI a)) 8)) (fun k hk => ?_) ?_
  · rw [show l ++ tail8 (8 * u64I (lenI a)) 0 = l by simp [tail8]] at this
    exact this
  · have h1 : (k : Int) < 8 := by omega
    simp only [r03_Padded_s2, dec_t h1, if_true]
    rw [wrap_id (n := (8 : Int) * k) (by omega), wrap_id (n := (56 : Int) - 8 * k) (by omega), req_t (by omega), req_t (by simp [tail8, LIM]; omega), wrap_id (by omega), tail8_succ, List.append_assoc, UInt64.mul_comm]
    rw [show (56 : Int) - 8 * (k : Int) = ((56 - 8 * k : Nat) : Int) by omega]
    rfl
  · rfl
theorem blocks_eq (kk : Vector UInt32 64) (p : List UInt8) (hp : p.length ≤ 300000000) : ∀ (m at_ : Nat) (v : Vector UInt32 8), p.length = at_ + 64 * m →
    ∃ v', iter (sha_Sum_s3 kk) (p.drop at_, v) = some ([], v') ∧ iter (r03_Sum_s1 kk p) ((at_ : Int), v) = some ((p.length : Int), v')
  | 0, at_, v, h => by
    refine ⟨v, ?_, ?_⟩
    · rw [List.drop_eq_nil_of_le (by omega)]
      exact iter_end rfl
    · have : at_ = p.length := by omega
      subst this
      refine iter_end ?_
      simp only [r03_Sum_s1]
      rw [dec_f (by rw [lenI]; omega), if_neg (by simp)]
  | m + 1, at_, v, h => by
    have hb : ((p.drop at_).take 64).length = 64 := by simp; omega
    obtain ⟨r, w, x, e1, e2, e3, e4⟩ := block_eq v _ hb kk
    obtain ⟨v', i1, i2⟩ := blocks_eq kk p hp m (at_ + 64) r (by omega)
    have hlen : lenI (p.drop at_) = ((p.length - at_ : Nat) : Int) := by simp [lenI]
    refine ⟨v', iter_next ?_ i1, iter_next ?_ i2⟩
    · simp only [sha_Sum_s3]
      rw [dec_t (by rw [hlen]; omega), if_pos rfl, req_t (by rw [hlen]; omega)]
      have c1 : cutL (p.drop at_) 0 64 = (p.drop at_).take 64 := cutL_to _ 64
      have c2 : cutL (p.drop at_) 64 (lenI (p.drop at_)) = (p.drop at_).drop 64 := cutL_from _ 64
      rw [c1, e1, some_bind, req_t (by rw [hlen]; omega), c2, List.drop_drop]
    · simp only [r03_Sum_s1]
      have hl2 : lenI p = (p.length : Int) := rfl
      rw [dec_t (by rw [hl2]; omega), if_pos rfl, wrap_id (by omega), req_t (by rw [hl2]; omega)]
      have c1 : cutL p (at_ : Int) ((at_ : Int) + 64) = (p.drop at_).take 64 := by simp [cutL]; congr 1; omega
      rw [c1, e2, some_bind, e3, some_bind]
      dsimp only
      rw [e4, some_bind]
      rfl
theorem steps_same : r03_Steps_k0 = sha_steps_k0 := rfl
theorem sums_same (s : Str) (hs : s.length ≤ 10000000) : ∃ r, sha_Sum s = some r ∧ r03_Sum s = some r := by
  obtain ⟨z, h1, h2, h3⟩ := pad_some (s ++ [128]) (by simp; omega)
  have hlen : (s ++ [(128 : UInt8)] ++ List.replicate z 0).length = s.length + 1 + z := by simp; omega
  have t1 := tail_one s (s ++ [128] ++ List.replicate z 0) (by omega)
  have t2 := tail_two s (s ++ [128] ++ List.replicate z 0) (by omega)
  have hmod : (s ++ [(128 : UInt8)] ++ List.replicate z 0 ++ tail8 (8 * u64I (lenI s)) 8).length % 64 = 0 := by
    rw [List.length_append, hlen]
    have : (tail8 (8 * u64I (lenI s)) 8).length = 8 := by simp [tail8]
    simp at h1; omega
  have hpl : (s ++ [(128 : UInt8)] ++ List.replicate z 0 ++ tail8 (8 * u64I (lenI s)) 8).length ≤ 300000000 := by
    rw [List.length_append, hlen]
    have : (tail8 (8 * u64I (lenI s)) 8).length = 8 := by simp [tail8]
    omega
  generalize hp : s ++ [(128 : UInt8)] ++ List.replicate z 0 ++ tail8 (8 * u64I (lenI s)) 8 = p at *
  obtain ⟨v', i1, i2⟩ := blocks_eq sha_steps_k0 p hpl (p.length / 64) 0 #v[1779033703, 3144134277, 1013904242, 2773480762, 1359893119, 2600822924, 528734635, 1541459225] (by omega)
  obtain ⟨r, o1, o2⟩ := outs v' zL
  rw [List.drop_zero] at i1
  refine ⟨r, ?_, ?_⟩
  · unfold sha_Sum sha_steps
    rw [req_t (by simp [LIM]; omega), h3, some_bind]
    dsimp only
    rw [t1, some_bind]
    dsimp only
    rw [some_bind, i1, some_bind]
    dsimp only
    rw [o1, some_bind]
  · unfold r03_Sum r03_Begin r03_Steps r03_Padded
    rw [some_bind, some_bind, req_t (by simp [LIM]; omega), show r03_Padded_s1 = sha_Sum_s1 from rfl, h3, some_bind]
    dsimp only
    rw [t2, some_bind, some_bind, steps_same]
    rw [show ((0 : Int)) = ((0 : Nat) : Int) from rfl, i2, some_bind]
    dsimp only
    rw [show (((0 : Nat)) : Int) = 0 from rfl, o2, some_bind]
/-- The sum of a text. -/
def H (s : Str) : Lab := (sha_Sum s).getD zL
theorem sha_Sum_eq (s : Str) (hs : s.length ≤ 10000000) : sha_Sum s = some (H s) := by
  obtain ⟨r, h, _⟩ := sums_same s hs; unfold H; rw [h]; rfl
end
end Go.Ch
end
section
/- The bytes that are summed. -/
set_option linter.unusedVariables false
set_option linter.unusedSimpArgs false
namespace Go.Ch
open Go.RowKit (wrap64)
noncomputable section

/-- A number as eight bytes. -/
def eight (n : Int) : Str := tail8 (u64I n) 8
theorem eight_len (n : Int) : (eight n).length = 8 := by simp [eight, tail8]
theorem tail8_len (n : UInt64) (k : Nat) : (tail8 n k).length = k := by simp [tail8]
theorem node_number_eq (n : Int) : node_number n = some (eight n) := by
  unfold node_number
  rw [req_t (by simp [LIM])]
  have h8 : lenI (List.replicate (Int.toNat (8 : Int)) (default : UInt8)) = 8 := by simp [lenI]
  have := iter_to (step := node_number_s1 n) (fun k => ((k : Int), tail8 (u64I n) k ++ List.replicate (8 - k) (0 : UInt8))) 8 (b := (8, eight n)) (fun k hk => ?_) ?_
  · have e : ((0 : Nat) : Int) = 0 := rfl
    rw [e] at this
    have e2 : tail8 (u64I n) 0 ++ List.replicate (8 - 0) (0 : UInt8) = List.replicate (Int.toNat (8 : Int)) (default : UInt8) := rfl
    rw [e2] at this
    rw [this, some_bind]
  · have h1 : (k : Int) < 8 := by omega
    simp only [node_number_s1, h8, dec_t h1, if_true]
    have hl : lenI (tail8 (u64I n) k ++ List.replicate (8 - k) (0 : UInt8)) = 8 := by simp [lenI, tail8_len]; omega
    rw [wrap_id (n := (8 : Int) * k) (by omega), wrap_id (n := (56 : Int) - 8 * k) (by omega), req_t (by omega), req_t (by omega), wrap_id (by omega), tail8_succ]
    rw [show (56 : Int) - 8 * (k : Int) = ((56 - 8 * k : Nat) : Int) by omega]
    rw [show 8 - k = (8 - (k + 1)) + 1 by omega, List.replicate_succ, Int.toNat_natCast]
    rw [List.set_append_right _ _ (by rw [tail8_len]; omega), tail8_len, Nat.sub_self, List.set_cons_zero, List.append_assoc]
    rfl
  · simp only [node_number_s1, h8]
    rw [dec_f (by omega), if_neg (by simp)]
    simp [eight]
/-! ### texts behind their lengths -/
def len4 (t : Str) : Str := [u8I (shrInt (lenI t) 24), u8I (shrInt (lenI t) 16), u8I (shrInt (lenI t) 8), u8I (lenI t)]
def joinS (tag : UInt8) (ts : List Str) : Str := tag :: (ts.map fun t => len4 t ++ t).flatten
theorem joinS_snoc (tag : UInt8) (ts : List Str) (t : Str) : joinS tag (ts ++ [t]) = joinS tag ts ++ (len4 t ++ t) := by simp [joinS]
theorem joinS_mid (tag : UInt8) (ts : List Str) (t : Str) (r : List Str) : (joinS tag ts).length + (4 + t.length) ≤ (joinS tag (ts ++ t :: r)).length := by
  simp [joinS, len4]; omega
theorem node_joined_eq (tag : UInt8) (ts : List Str) (h : (joinS tag ts).length ≤ 10000000) (hl : ts.length ≤ 1000000) : node_joined tag ts = some (joinS tag ts) := by
  unfold node_joined
  have := iter_fold (step := node_joined_s1 ts) (fun k s => ((k : Int), s)) ts (joinS tag) (b := ((ts.length : Int), joinS tag ts)) (fun pre x r e => ?_) ?_
  · rw [show ([tag] : List UInt8) = joinS tag [] from rfl, show ((0 : Int)) = ((0 : Nat) : Int) from rfl, this, some_bind]
  · have hm := joinS_mid tag pre x r
    rw [← e] at hm
    have h1 : (pre.length : Int) < lenI ts := by simp [e, lenI]; omega
    have h2 : pre.length < ts.length := by simp [e]
    have hx : getI ts (pre.length : Int) = x := by rw [e, getI_mid]
    simp only [node_joined_s1, dec_t h1, if_true, hx]
    rw [req_t (by omega), req_t (by simp [LIM]; omega), req_t (by simp [LIM]; omega), wrap_id (by omega), joinS_snoc, List.append_assoc]
    rfl
  · simp only [node_joined_s1]
    rw [dec_f (by simp [lenI]), if_neg (by simp)]
theorem shrInt_zero (n : Nat) (h : n < 9223372036854775808) : shrInt (n : Int) 0 = (n : Int) := by
  unfold shrInt shrI
  simp
theorem sha_Joined_eq (tag : UInt8) (ts : List Str) (h : (joinS tag ts).length ≤ 10000000) (hl : ts.length ≤ 1000000) : sha_Joined tag ts = some (H (joinS tag ts)) := by
  unfold sha_Joined
  have := iter_fold (step := sha_Joined_s1 ts) (fun k s => ((k : Int), s)) ts (joinS tag) (b := ((ts.length : Int), joinS tag ts)) (fun pre x r e => ?_) ?_
  · rw [show ([tag] : List UInt8) = joinS tag [] from rfl, show ((0 : Int)) = ((0 : Nat) : Int) from rfl, this, some_bind]
    dsimp only
    rw [sha_Sum_eq _ h, some_bind]
  · have hm := joinS_mid tag pre x r
    rw [← e] at hm
    have h1 : (pre.length : Int) < lenI ts := by simp [e, lenI]; omega
    have h2 : pre.length < ts.length := by simp [e]
    have hx : getI ts (pre.length : Int) = x := by rw [e, getI_mid]
    have step : ∀ (i : Int) (s : List UInt8), 0 ≤ i → i ≤ 24 → s.length ≤ 10000000 → sha_Joined_s2 ts (pre.length : Int) (i, s) = some (.inl (i - 8, s ++ [u8I (shrInt (lenI x) i)])) := fun i s h0 h24 hs => by
      simp only [sha_Joined_s2, dec_t h0, if_true, hx]
      rw [req_t h0, req_t (by simp [LIM]; omega), wrap_id (by omega)]
    have inner : iter (sha_Joined_s2 ts (pre.length : Int)) (24, joinS tag pre) = some (-8, joinS tag pre ++ len4 x) := by
      refine iter_next (step 24 _ (by omega) (by omega) (by omega)) ?_
      refine iter_next (step 16 _ (by omega) (by omega) (by simp; omega)) ?_
      refine iter_next (step 8 _ (by omega) (by omega) (by simp; omega)) ?_
      refine iter_next (step 0 _ (by omega) (by omega) (by simp; omega)) ?_
      refine iter_end ?_
      simp only [sha_Joined_s2]
      rw [dec_f (by omega), if_neg (by simp)]
      have e0 : shrInt (lenI x) 0 = lenI x := shrInt_zero _ (by omega)
      rw [e0]
      simp [len4]
    simp only [sha_Joined_s1, dec_t h1, if_true, hx]
    rw [req_t (by omega), inner, some_bind]
    dsimp only
    rw [req_t (by simp [LIM, len4]; omega), wrap_id (by omega), joinS_snoc, List.append_assoc]
    rfl
  · simp only [sha_Joined_s1]
    rw [dec_f (by simp [lenI]), if_neg (by simp)]

/-! ### of leaves, of items -/
def itemText (x : Item) : Str := eight x.len ++ x.bits.toList ++ x.sum.toList ++ eight x.at_
theorem itemText_len (x : Item) : (itemText x).length = 80 := by simp [itemText, eight_len]
theorem node_text_eq (x : Item) : node_text x = some (itemText x) := by
  unfold node_text
  rw [node_number_eq, some_bind, req_t (by simp [eight_len, LIM]), req_t (by simp [eight_len, LIM]), node_number_eq, some_bind, req_t (by simp [eight_len, LIM])]
  rfl
def innerBytes (a b : Item) : Str := joinS 17 [itemText a, itemText b]
def leafBytes (l : Leaf) : Str := joinS 16 [l.label.toList, l.value.toList, eight l.at_]
theorem innerBytes_len (a b : Item) : (innerBytes a b).length = 169 := by simp [innerBytes, joinS, itemText_len, len4]
theorem leafBytes_len (l : Leaf) : (leafBytes l).length = 85 := by simp [leafBytes, joinS, eight_len, len4]
theorem node_InnerBytes_eq (x : Inner) : node_InnerBytes x = some (innerBytes x.l x.r) := by
  unfold node_InnerBytes
  rw [node_text_eq, some_bind, node_text_eq, some_bind, node_joined_eq _ _ (by have := innerBytes_len x.l x.r; unfold innerBytes at this; omega) (by simp), some_bind]
  rfl
theorem node_LeafBytes_eq (l : Leaf) : node_LeafBytes l = some (leafBytes l) := by
  unfold node_LeafBytes
  rw [node_number_eq, some_bind, node_joined_eq _ _ (by have := leafBytes_len l; unfold leafBytes at this; omega) (by simp), some_bind]
  rfl
/-- The item of two. -/
def innerItem (a b : Item) : Item := ⟨(com a.bits b.bits : Int), cut a.bits (com a.bits b.bits), H (innerBytes a b), max a.at_ b.at_⟩
def leafItem (l : Leaf) : Item := ⟨256, l.label, H (leafBytes l), l.at_⟩
theorem clampN_nat {n : Nat} (h : n ≤ 256) : clampN (n : Int) = n := by unfold clampN; omega
theorem node_Inner_Item_eq (x : Inner) : node_Inner_Item x = some (innerItem x.l x.r) := by
  unfold node_Inner_Item
  rw [bits_Common_eq, some_bind, bits_Cut_eq, some_bind, node_InnerBytes_eq, some_bind, sha_Sum_eq _ (by rw [innerBytes_len]; omega), some_bind, clampN_nat (com_le _ _)]
  rfl
theorem node_Leaf_Item_eq (l : Leaf) : node_Leaf_Item l = some (leafItem l) := by
  unfold node_Leaf_Item
  rw [bits_Cut_eq, some_bind, node_LeafBytes_eq, some_bind, sha_Sum_eq _ (by rw [leafBytes_len]; omega), some_bind]
  rw [show clampN 256 = 256 from rfl, cut_full]
  rfl
def emptyS : Lab := H [18]
theorem node_Empty_eq : node_Empty = some emptyS := by
  unfold node_Empty
  rw [sha_Joined_eq _ _ (by simp [joinS]) (by simp), some_bind]
  rfl

/-! ### are they in form? -/
def itGood (x : Item) : Bool := goodB x.len x.bits && decide (0 ≤ x.at_ ∧ x.at_ ≤ 1073741824)
theorem node_Good_eq (x : Item) : node_Good x = some (itGood x) := by
  unfold node_Good itGood
  rw [bits_Good_eq, some_bind]
  cases goodB x.len x.bits <;> by_cases h1 : 0 ≤ x.at_ <;> simp [h1]
theorem r15_Good_eq (x : Item) : r15_Good x = some (itGood x) := by
  unfold r15_Good itGood
  rw [r01_Good_eq, some_bind]
  cases goodB x.len x.bits <;> by_cases h1 : 0 ≤ x.at_ <;> simp [h1]
/-- The error of two items. -/
def pairErr (a b : Item) : Int :=
  if (!itGood a || !itGood b) = true then 1
  else if (decide (a.len ≤ (com a.bits b.bits : Int)) || decide (b.len ≤ (com a.bits b.bits : Int)) || !lt a.bits b.bits) = true then 3 else 0
def leafErr (l : Leaf) : Int := if l.at_ < 0 ∨ 1073741824 < l.at_ then 1 else 0
theorem node_Check_leaf (l : Leaf) : node_Check (.leaf l) = some (leafErr l) := by
  unfold node_Check leafErr
  by_cases h1 : l.at_ < 0 <;> by_cases h2 : 1073741824 < l.at_ <;> simp [h1, h2]
theorem ne_of_com {n : Int} {a b : Item} (hg : itGood a = true) (h : ¬ a.len ≤ (com a.bits b.bits : Int)) : a.bits ≠ b.bits := by
  intro e
  rw [e, com_self] at h
  unfold itGood at hg
  simp only [Bool.and_eq_true] at hg
  have := (good_iff.1 hg.1).2.1
  omega
theorem node_Check_inner (x : Inner) : node_Check (.inner x) = some (pairErr x.l x.r) := by
  unfold node_Check pairErr
  simp only [node_Good_eq, some_bind, bits_Common_eq, bits_Order_eq]
  cases hg : itGood x.l with
  | false => simp
  | true =>
    cases hg2 : itGood x.r with
    | false => simp
    | true =>
      by_cases h1 : x.l.len ≤ (com x.l.bits x.r.bits : Int)
      · simp [h1]
      · by_cases h2 : x.r.len ≤ (com x.l.bits x.r.bits : Int)
        · simp [h1, h2]
        · have hne := ne_of_com (n := 0) hg h1
          have hp := ord_pos x.l.bits x.r.bits
          cases hl : lt x.l.bits x.r.bits with
          | true =>
            rw [lt_asymm hl] at hp
            simp [h1, h2]; simpa using hp
          | false =>
            have := (lt_or hne).resolve_left (by simp [hl])
            have := hp.2 this
            simp [h1, h2, this]
theorem r15_Check_eq (a b : Item) : r15_Check a b = some (pairErr a b) := by
  unfold r15_Check pairErr
  simp only [r15_Good_eq, some_bind, r01_Common_eq, r01_Order_eq]
  cases hg : itGood a with
  | false => simp
  | true =>
    cases hg2 : itGood b with
    | false => simp
    | true =>
      by_cases h1 : a.len ≤ (com a.bits b.bits : Int)
      · simp [h1]
      · by_cases h2 : b.len ≤ (com a.bits b.bits : Int)
        · simp [h1, h2]
        · have hp := ord_m1 a.bits b.bits
          cases hl : lt a.bits b.bits with
          | true => simp [h1, h2, hp.2 hl]
          | false =>
            have : ¬ ord a.bits b.bits = -1 := fun e => by rw [hp.1 e] at hl; cases hl
            simp [h1, h2, this]
end
end Go.Ch
end
section
/- Plain laws: sorting by a label, stably. -/
set_option linter.unusedVariables false
set_option linter.unusedSimpArgs false
namespace Go.Ch

theorem snoc_ind {α : Type} {p : List α → Prop} (nil : p []) (snoc : ∀ l x, p l → p (l ++ [x])) (l : List α) : p l := by
  have h : ∀ r : List α, p r.reverse := fun r => by
    induction r with
    | nil => exact nil
    | cons x r ih => rw [List.reverse_cons]; exact snoc _ _ ih
  have := h l.reverse
  rwa [List.reverse_reverse] at this

section
variable {α β : Type} (key : α → Lab)

/-- x goes ahead of the first one that is greater. -/
def insL (x : α) : List α → List α
  | [] => [x]
  | y :: l => if lt (key x) (key y) = true then x :: y :: l else y :: insL x l
/-- The same from the other end, over the reversed list. -/
def insR (x : α) : List α → List α
  | [] => [x]
  | y :: l => if lt (key x) (key y) = true then y :: insR x l else x :: y :: l
def sortS (l : List α) : List α := l.foldl (fun acc x => insL key x acc) []
/-- Not falling. -/
def Up (l : List α) : Prop := l.Pairwise fun a b => lt (key b) (key a) = false

theorem insL_split (x : α) : ∀ (A B : List α), (∀ a ∈ A, lt (key x) (key a) = false) → (∀ b ∈ B, lt (key x) (key b) = true) → insL key x (A ++ B) = A ++ x :: B
  | [], [], _, _ => rfl
  | [], b :: B, _, hB => by simp [insL, hB b (by simp)]
  | a :: A, B, hA, hB => by
    simp only [List.cons_append, insL, hA a (by simp), Bool.false_eq_true, if_false]
    rw [insL_split x A B (fun a h => hA a (by simp [h])) hB]
theorem insR_split (x : α) : ∀ (B A : List α), (∀ a ∈ A, lt (key x) (key a) = false) → (∀ b ∈ B, lt (key x) (key b) = true) → insR key x (B ++ A) = B ++ x :: A
  | [], [], _, _ => rfl
  | [], a :: A, hA, _ => by simp [insR, hA a (by simp)]
  | b :: B, A, hA, hB => by
    simp only [List.cons_append, insR, hB b (by simp), if_true]
    rw [insR_split x B A hA (fun b h => hB b (by simp [h]))]
theorem lt_mono {x a b : Lab} (h : lt b a = false) (hx : lt x a = true) : lt x b = true := by
  by_cases e : a = b
  · rw [← e]; exact hx
  · exact lt_trans hx ((lt_or e).resolve_right (by simp [h]))
theorem up_split (x : α) (l : List α) (h : Up key l) : ∃ A B, l = A ++ B ∧ (∀ a ∈ A, lt (key x) (key a) = false) ∧ (∀ b ∈ B, lt (key x) (key b) = true) := by
  induction l with
  | nil => exact ⟨[], [], rfl, by simp, by simp⟩
  | cons y l ih =>
    obtain ⟨h1, h2⟩ := List.pairwise_cons.1 h
    cases hy : lt (key x) (key y) with
    | true =>
      refine ⟨[], y :: l, rfl, by simp, fun b hb => ?_⟩
      rcases List.mem_cons.1 hb with rfl | hb
      · exact hy
      · exact lt_mono (h1 b hb) hy
    | false =>
      obtain ⟨A, B, rfl, hA, hB⟩ := ih h2
      refine ⟨y :: A, B, rfl, fun a ha => ?_, hB⟩
      rcases List.mem_cons.1 ha with rfl | ha
      · exact hy
      · exact hA a ha
theorem insR_insL (x : α) (l : List α) (h : Up key l) : (insR key x l.reverse).reverse = insL key x l := by
  obtain ⟨A, B, rfl, hA, hB⟩ := up_split key x l h
  rw [List.reverse_append, insR_split key x _ _ (by simpa using hA) (by simpa using hB), insL_split key x A B hA hB]
  simp
theorem insL_up (x : α) (l : List α) (h : Up key l) : Up key (insL key x l) := by
  obtain ⟨A, B, rfl, hA, hB⟩ := up_split key x l h
  rw [insL_split key x A B hA hB]
  unfold Up at *
  rw [List.pairwise_append] at h ⊢
  obtain ⟨h1, h2, h3⟩ := h
  refine ⟨h1, List.pairwise_cons.2 ⟨fun b hb => lt_asymm (hB b hb), h2⟩, fun a ha b hb => ?_⟩
  rcases List.mem_cons.1 hb with rfl | hb
  · exact hA a ha
  · exact h3 a ha b hb
theorem insL_perm (x : α) : ∀ l : List α, (insL key x l).Perm (x :: l)
  | [] => .refl _
  | y :: l => by
    unfold insL
    split
    · exact .refl _
    · exact ((insL_perm x l).cons y).trans (.swap _ _ _)
theorem sort_snoc (l : List α) (x : α) : sortS key (l ++ [x]) = insL key x (sortS key l) := by simp [sortS]
theorem sort_up (l : List α) : Up key (sortS key l) := by
  induction l using snoc_ind with
  | nil => exact .nil
  | snoc l x ih => rw [sort_snoc]; exact insL_up key x _ ih
theorem sort_perm (l : List α) : (sortS key l).Perm l := by
  induction l using snoc_ind with
  | nil => exact .refl _
  | snoc l x ih =>
    rw [sort_snoc]
    exact (insL_perm key x _).trans ((ih.cons x).trans (List.perm_append_singleton x l).symm)
theorem sort_length (l : List α) : (sortS key l).length = l.length := (sort_perm key l).length_eq
/-- What doesn't fall stays. -/
theorem sort_id (l : List α) (h : Up key l) : sortS key l = l := by
  induction l using snoc_ind with
  | nil => rfl
  | snoc l x ih =>
    unfold Up at h
    rw [List.pairwise_append] at h
    rw [sort_snoc, ih h.1]
    have := insL_split key x l [] (fun a ha => h.2.2 a ha x (by simp)) (by simp)
    simpa using this
theorem insL_map (f : β → α) (x : β) : ∀ l : List β, (insL (fun b => key (f b)) x l).map f = insL key (f x) (l.map f)
  | [] => rfl
  | y :: l => by
    unfold insL
    by_cases h : lt (key (f x)) (key (f y)) = true
    · simp [h]
    · simp [h, insL_map f x l]
theorem sort_map (f : β → α) (l : List β) : (sortS (fun b => key (f b)) l).map f = sortS key (l.map f) := by
  induction l using snoc_ind with
  | nil => rfl
  | snoc l x ih => rw [sort_snoc, insL_map, ih, List.map_append, List.map_singleton, sort_snoc]
end
end Go.Ch
end
section
/- Sorting, as the library does it: short lists. -/
set_option linter.unusedVariables false
set_option linter.unusedSimpArgs false
namespace Go.Ch
open Go.RowKit (wrap64)
noncomputable section
section
variable {α : Type} [Inhabited α] (key : α → Lab) (cmp : α → α → Option Int) (hc : ∀ x y, cmp x y = some (ord (key x) (key y)))

def gIns2 (a1 : Int) (a3 : (α → α → Option Int)) : (Int × (List α)) → Option ((Int × (List α)) ⊕ (Int × (List α)))
 | (x16, x17) => ((if (decide (a1 < x16)) = true then ((req ((0 : Int) ≤ x16 ∧ x16 < lenI x17)).bind fun _ => ((req ((0 : Int) ≤ (wrap64 (x16 - (1 : Int))) ∧ (wrap64 (x16 - (1 : Int))) < lenI x17)).bind fun _ => ((a3 (getI x17 x16) (getI x17 (wrap64 (x16 - (1 : Int))))).bind fun t34 => some (decide (t34 < (0 : Int)))))) else some false).bind fun b24 => (if b24 = true then ((req ((0 : Int) ≤ (wrap64 (x16 - (1 : Int))) ∧ (wrap64 (x16 - (1 : Int))) < lenI x17)).bind fun _ => ((req ((0 : Int) ≤ x16 ∧ x16 < lenI x17)).bind fun _ => ((req ((0 : Int) ≤ x16 ∧ x16 < lenI x17)).bind fun _ => ((req ((0 : Int) ≤ (wrap64 (x16 - (1 : Int))) ∧ (wrap64 (x16 - (1 : Int))) < lenI (x17.set (Int.toNat x16) (getI x17 (wrap64 (x16 - (1 : Int))))))).bind fun _ => some (.inl ((wrap64 (x16 - (1 : Int))), ((x17.set (Int.toNat x16) (getI x17 (wrap64 (x16 - (1 : Int))))).set (Int.toNat (wrap64 (x16 - (1 : Int)))) (getI x17 x16)))))))) else some (.inr (x16, x17))))
def gIns1 (a1 : Int) (a2 : Int) (a3 : (α → α → Option Int)) : (Int × (List α)) → Option ((Int × (List α)) ⊕ (Int × (List α)))
 | (x4, x5) => (if (decide (x4 < a2)) = true then ((iter (gIns2 a1 a3) (x4, x5)).bind fun b19 => (match b19 with | (x16, x17) => some (.inl ((wrap64 (x4 + (1 : Int))), x17)))) else some (.inr (x4, x5)))
def gIns (a0 : (List α)) (a1 : Int) (a2 : Int) (a3 : (α → α → Option Int)) : Option (List α) :=
 ((iter (gIns1 a1 a2 a3) ((wrap64 (a1 + (1 : Int))), a0)).bind fun b7 => (match b7 with | (x4, x5) => some x5))

include hc in
theorem gIns2_eq (P : List α) (x : α) : ∀ (R T : List α), P.length + R.length + T.length < 1000000000000 →
    ∃ j, iter (gIns2 (P.length : Int) cmp) (((P.length + R.length : Nat) : Int), P ++ (R.reverse ++ x :: T)) = some (j, P ++ ((insR key x R).reverse ++ T))
  | [], T, h => by
    refine ⟨((P.length + ([] : List α).length : Nat) : Int), iter_end ?_⟩
    simp only [gIns2]
    rw [dec_f (by simp), if_neg (by simp), some_bind, if_neg (by simp)]
    simp [insR]
  | y :: R, T, h => by
    simp only [List.length_cons] at h
    have hj : (((P.length + (y :: R).length : Nat)) : Int) - 1 = ((P.length + R.length : Nat) : Int) := by simp; omega
    have hl : lenI (P ++ ((y :: R).reverse ++ x :: T)) = ((P.length + (R.length + 1) + (T.length + 1) : Nat) : Int) := by simp [lenI]; omega
    have e1 : P ++ ((y :: R).reverse ++ x :: T) = (P ++ R.reverse ++ [y]) ++ x :: T := by simp
    have e2 : P ++ ((y :: R).reverse ++ x :: T) = (P ++ R.reverse) ++ y :: x :: T := by simp
    have gx : getI (P ++ ((y :: R).reverse ++ x :: T)) (((P.length + (y :: R).length : Nat)) : Int) = x := by
      rw [e1, show P.length + (y :: R).length = (P ++ R.reverse ++ [y]).length by simp [Nat.add_assoc], getI_mid]
    have gy : getI (P ++ ((y :: R).reverse ++ x :: T)) (((P.length + R.length : Nat)) : Int) = y := by
      rw [e2, show P.length + R.length = (P ++ R.reverse).length by simp, getI_mid]
    cases hlt : lt (key x) (key y) with
    | true =>
      obtain ⟨j, hj2⟩ := gIns2_eq P x R (y :: T) (by simp; omega)
      refine ⟨j, iter_next (s' := (((P.length + R.length : Nat) : Int), P ++ (R.reverse ++ x :: y :: T))) ?_ ?_⟩
      · simp only [gIns2]
        rw [dec_t (by simp; omega), if_pos rfl, hj, wrap_id (by omega), gx, gy, req_t (by rw [hl]; simp; omega), req_t (by rw [hl]; omega), hc, some_bind, dec_t ((ord_neg _ _).2 hlt), some_bind, if_pos rfl]
        rw [req_t (by rw [hl]; omega), req_t (by rw [hl]; simp; omega), req_t (by rw [hl]; simp; omega)]
        rw [req_t (by simp only [lenI, List.length_set] at hl ⊢; rw [hl]; omega)]
        congr 3
        rw [e1, Int.toNat_natCast, Int.toNat_natCast]
        rw [List.set_append_right _ _ (by simp [Nat.add_assoc]), show P.length + (y :: R).length - (P ++ R.reverse ++ [y]).length = 0 by simp [Nat.add_assoc], List.set_cons_zero]
        rw [show P ++ R.reverse ++ [y] ++ y :: T = (P ++ R.reverse) ++ y :: y :: T by simp]
        rw [List.set_append_right _ _ (by simp), show P.length + R.length - (P ++ R.reverse).length = 0 by simp, List.set_cons_zero]
        simp
      · rw [hj2]
        simp [insR, hlt]
    | false =>
      refine ⟨((P.length + (y :: R).length : Nat) : Int), iter_end ?_⟩
      have ho : ¬ ord (key x) (key y) < 0 := fun e => by rw [(ord_neg _ _).1 e] at hlt; cases hlt
      simp only [gIns2]
      rw [dec_t (by simp; omega), if_pos rfl, hj, wrap_id (by omega), gx, gy, req_t (by rw [hl]; simp; omega), req_t (by rw [hl]; omega), hc, some_bind, dec_f ho, some_bind, if_neg (by simp)]
      simp [insR, hlt]
include hc in
theorem gIns1_eq (P Q : List α) : ∀ (E D : List α), P.length + D.length + E.length + Q.length < 1000000000000 →
    ∃ j, iter (gIns1 (P.length : Int) ((P.length + (D ++ E).length : Nat) : Int) cmp) (((P.length + D.length : Nat) : Int), P ++ (sortS key D ++ (E ++ Q))) = some (j, P ++ (sortS key (D ++ E) ++ Q))
  | [], D, h => by
    refine ⟨((P.length + D.length : Nat) : Int), iter_end ?_⟩
    simp only [gIns1]
    rw [dec_f (by simp), if_neg (by simp)]
    simp
  | x :: E, D, h => by
    simp only [List.length_cons] at h
    obtain ⟨j, hj⟩ := gIns1_eq P Q E (D ++ [x]) (by simp; omega)
    obtain ⟨i, hi⟩ := gIns2_eq key cmp hc P x (sortS key D).reverse (E ++ Q) (by simp [sort_length]; omega)
    refine ⟨j, iter_next (s' := (((P.length + (D ++ [x]).length : Nat) : Int), P ++ (sortS key (D ++ [x]) ++ (E ++ Q)))) ?_ ?_⟩
    · simp only [gIns1]
      rw [dec_t (by simp; omega), if_pos rfl]
      rw [List.reverse_reverse, List.length_reverse, sort_length] at hi
      rw [List.cons_append, hi, some_bind]
      dsimp only
      rw [wrap_id (by omega), insR_insL key x _ (sort_up key D), ← sort_snoc]
      congr 3
      simp; omega
    · rw [show D ++ x :: E = D ++ [x] ++ E by simp]
      exact hj
include hc in
theorem gIns_eq (P M Q : List α) (h : P.length + M.length + Q.length < 100000000000) : gIns (P ++ (M ++ Q)) (P.length : Int) ((P.length + M.length : Nat) : Int) cmp = some (P ++ (sortS key M ++ Q)) := by
  unfold gIns
  rw [wrap_id (by omega)]
  cases M with
  | nil =>
    have : iter (gIns1 (P.length : Int) ((P.length + ([] : List α).length : Nat) : Int) cmp) ((P.length : Int) + 1, P ++ ([] ++ Q)) = some ((P.length : Int) + 1, P ++ ([] ++ Q)) := by
      refine iter_end ?_
      simp only [gIns1]
      rw [dec_f (by simp; omega), if_neg (by simp)]
    rw [this, some_bind]; rfl
  | cons x M =>
    obtain ⟨j, hj⟩ := gIns1_eq key cmp hc P Q M [x] (by simp at h ⊢; omega)
    have e : sortS key [x] = [x] := rfl
    rw [e] at hj
    simp only [List.cons_append, List.nil_append, List.length_cons, List.length_nil] at hj ⊢
    rw [show ((P.length : Int) + 1) = ((P.length + (0 + 1) : Nat) : Int) by omega, hj, some_bind]

def gSt1 (a1 : Int) (a2 : (α → α → Option Int)) : (Int × Int × (List α)) → Option ((Int × Int × (List α)) ⊕ (Int × Int × (List α)))
 | (x6, x7, x8) => (if (decide (x6 ≤ a1)) = true then ((gIns x8 x7 x6 a2).bind fun t16 => some (.inl ((wrap64 (x6 + (20 : Int))), x6, t16))) else some (.inr (x6, x7, x8)))
include hc in
/-- What the sorting begins with, of at most 20. -/
theorem gSt_eq (l : List α) (h : l.length ≤ 20) : ∃ x y m, iter (gSt1 (lenI l) cmp) (20, 0, l) = some (x, y, m) ∧ gIns m y (lenI l) cmp = some (sortS key l) := by
  rcases Nat.lt_or_ge l.length 20 with h20 | h20
  · refine ⟨20, 0, l, iter_end ?_, ?_⟩
    · simp only [gSt1]; rw [dec_f (by simp [lenI]; omega), if_neg (by simp)]
    · have := gIns_eq key cmp hc [] l [] (by simp; omega)
      simpa [lenI] using this
  · have hl : l.length = 20 := by omega
    refine ⟨40, 20, sortS key l, iter_next (s' := (40, 20, sortS key l)) ?_ (iter_end ?_), ?_⟩
    · simp only [gSt1]
      have := gIns_eq key cmp hc [] l [] (by simp; omega)
      rw [hl] at this
      simp only [List.nil_append, List.append_nil, List.length_nil] at this
      rw [dec_t (by simp [lenI]; omega), if_pos rfl, show ((20 : Int)) = ((0 + 20 : Nat) : Int) from rfl, show ((0 : Int)) = ((0 : Nat) : Int) from rfl, this, some_bind, wrap_id (by omega)]
      rfl
    · simp only [gSt1]; rw [dec_f (by simp [lenI]; omega), if_neg (by simp)]
    · have := gIns_eq key cmp hc (sortS key l) [] [] (by simp [sort_length]; omega)
      simp only [List.append_nil, List.length_nil, Nat.add_zero, sort_length, hl] at this
      rw [show sortS key ([] : List α) = [] from rfl, List.append_nil] at this
      rw [lenI, hl]; exact this
end

theorem insLeaf : @slices_insertionSortCmpFunc_Leaf = gIns := rfl
theorem insItem : @slices_insertionSortCmpFunc_Item = gIns := rfl
theorem sortLeaf_eq (key : Leaf → Lab) (cmp : Leaf → Leaf → Option Int) (hc : ∀ x y, cmp x y = some (ord (key x) (key y))) (k : Nat) (l : List Leaf) (h : l.length ≤ 20) : slices_SortStableFunc_Leaf k l cmp = some (sortS key l) := by
  obtain ⟨x, y, m, h1, h2⟩ := gSt_eq key cmp hc l h
  unfold slices_SortStableFunc_Leaf slices_stableCmpFunc_Leaf
  rw [show slices_stableCmpFunc_Leaf_s1 (lenI l) cmp = gSt1 (lenI l) cmp from rfl, h1, some_bind]
  dsimp only
  rw [insLeaf, h2, some_bind]
  have : iter (slices_stableCmpFunc_Leaf_s2 (lenI l)) 20 = some 20 := by
    refine iter_end ?_
    simp only [slices_stableCmpFunc_Leaf_s2]; rw [dec_f (by simp [lenI]; omega), if_neg (by simp)]
  rw [this, some_bind, some_bind]
theorem sortItem_eq (key : Item → Lab) (cmp : Item → Item → Option Int) (hc : ∀ x y, cmp x y = some (ord (key x) (key y))) (k : Nat) (l : List Item) (h : l.length ≤ 20) : slices_SortStableFunc_Item k l cmp = some (sortS key l) := by
  obtain ⟨x, y, m, h1, h2⟩ := gSt_eq key cmp hc l h
  unfold slices_SortStableFunc_Item slices_stableCmpFunc_Item
  rw [show slices_stableCmpFunc_Item_s1 (lenI l) cmp = gSt1 (lenI l) cmp from rfl, h1, some_bind]
  dsimp only
  rw [insItem, h2, some_bind]
  have : iter (slices_stableCmpFunc_Item_s2 (lenI l)) 20 = some 20 := by
    refine iter_end ?_
    simp only [slices_stableCmpFunc_Item_s2]; rw [dec_f (by simp [lenI]; omega), if_neg (by simp)]
  rw [this, some_bind, some_bind]

/-! ### the program's sorting, the document's -/
def sortLf (l : List Leaf) : List Leaf := sortS Leaf.label l
def sortIt (l : List Item) : List Item := sortS Item.bits l
theorem proof_sorted_eq (k : Nat) (l : List Leaf) (h : l.length ≤ 20) : proof_sorted k l = some (sortLf l) := by
  unfold proof_sorted slices_Clone_Leaf
  rw [req_t (by simp [LIM]; omega), some_bind, List.nil_append]
  rw [sortLeaf_eq Leaf.label _ (fun x y => by unfold proof_sorted_1; rw [bits_Order_eq, some_bind]) k l h, some_bind]
  rfl
theorem patch_Sorted_eq (k : Nat) (l : List Item) (h : l.length ≤ 20) : patch_Sorted k l = some (sortIt l) := by
  unfold patch_Sorted slices_Clone_Item
  rw [req_t (by simp [LIM]; omega), some_bind, List.nil_append]
  rw [sortItem_eq Item.bits _ (fun x y => by unfold patch_Sorted_1; rw [bits_Order_eq, some_bind]) k l h, some_bind]
  rfl
def ofS (l : List Leaf) : List Item := sortIt (l.map leafItem)
theorem ofS_length (l : List Leaf) : (ofS l).length = l.length := by unfold ofS sortIt; rw [sort_length, List.length_map]
/-- Items of leaves: sorted ahead or behind. -/
theorem ofS_sort (l : List Leaf) : ofS l = (sortLf l).map leafItem := by
  unfold ofS sortLf sortIt
  exact (sort_map Item.bits leafItem l).symm
theorem sort_sort (l : List Leaf) : sortLf (sortLf l) = sortLf l := sort_id _ _ (sort_up _ _)
theorem ofS_sorted (l : List Leaf) : ofS (sortLf l) = ofS l := by rw [ofS_sort, sort_sort, ofS_sort]
theorem patch_Of_eq (k : Nat) (l : List Leaf) (h : l.length ≤ 20) : patch_Of k l = some (ofS l) := by
  unfold patch_Of
  have := iter_fold (step := patch_Of_s1 l) (fun k s => ((k : Int), s)) l (List.map leafItem) (b := ((l.length : Int), l.map leafItem)) (fun pre x r e => ?_) ?_
  · rw [show ([] : List Item) = List.map leafItem [] from rfl, show ((0 : Int)) = ((0 : Nat) : Int) from rfl, this, some_bind]
    dsimp only
    rw [patch_Sorted_eq _ _ (by simpa using h), some_bind]
    rfl
  · have h1 : (pre.length : Int) < lenI l := by simp [e, lenI]; omega
    have h2 : pre.length < l.length := by simp [e]
    have hx : getI l (pre.length : Int) = x := by rw [e, getI_mid]
    simp only [patch_Of_s1, dec_t h1, if_true, hx]
    rw [req_t (by omega), node_Leaf_Item_eq, some_bind, req_t (by simp [LIM]; omega), wrap_id (by omega), List.map_append]
    rfl
  · simp only [patch_Of_s1]
    rw [dec_f (by simp [lenI]), if_neg (by simp)]
end
end Go.Ch
end
section
/- Lists of items: are they in form? Pieces, copies. -/
set_option linter.unusedVariables false
set_option linter.unusedSimpArgs false
namespace Go.Ch
open Go.RowKit (wrap64)
noncomputable section

def overI (a x : Item) : Bool := decide (a.len ≤ x.len) && decide (a.len ≤ (com a.bits x.bits : Int))
def bad (a x : Item) : Bool := overI a x || (overI x a || !lt a.bits x.bits)
/-- The error of items behind another one. -/
def chk : Option Item → List Item → Int
  | _, [] => 0
  | p, x :: r => if itGood x = false then 1 else if (p.any fun a => bad a x) = true then 3 else chk (some x) r
def checkS (l : List Item) : Int := if 2000 < l.length then 2 else chk none l
theorem chk_val : ∀ (l : List Item) (p : Option Item), chk p l = 0 ∨ chk p l = 1 ∨ chk p l = 3
  | [], p => .inl rfl
  | x :: r, p => by
    unfold chk
    split
    · simp
    · split
      · simp
      · exact chk_val r _
theorem good_of {x : Item} (h : itGood x = true) : goodB x.len x.bits = true := by unfold itGood at h; simp only [Bool.and_eq_true] at h; exact h.1
theorem over_good {a x : Item} (ha : itGood a = true) (hx : itGood x = true) : overB a.len a.bits x.len x.bits = overI a x := by
  unfold overB overI hasB; rw [good_of ha, good_of hx]; simp
theorem last_mid {α : Type} [Inhabited α] (pre : List α) (a : α) (r : List α) : getI (pre ++ [a] ++ r) (((pre ++ [a]).length : Int) - 1) = a := by
  rw [show (((pre ++ [a]).length : Int) - 1) = (pre.length : Int) by simp, List.append_assoc]; exact getI_mid _ _ _
theorem patch_Check_eq (l : List Item) (hl : l.length ≤ 1000000000000) : patch_Check l = some (checkS l) := by
  unfold patch_Check checkS
  by_cases h2 : 2000 < l.length
  · rw [dec_t (by simp [lenI]; omega), if_pos rfl, if_pos h2]
  · rw [dec_f (by simp [lenI]; omega), if_neg (by simp), if_neg h2]
    have := iter_list (step := patch_Check_s1 l) (fun k (_ : Unit) => (k : Int)) l (fun pre _ => ∀ y, pre.getLast? = some y → itGood y = true)
      (fun pre r _ => if chk pre.getLast? r = 0 then (.inr (l.length : Int) : Int ⊕ Int) else .inl (chk pre.getLast? r)) (fun s hI => ?_) (fun pre x r s e hI => ?_) l [] () rfl (by simp)
    · rw [show ((0 : Int)) = ((([] : List Item).length : Nat) : Int) from rfl, this, some_bind]
      rcases chk_val l none with h | h | h <;> simp [h]
    · simp only [patch_Check_s1]
      rw [dec_f (by simp [lenI]), if_neg (by simp)]
      simp [chk]
    · have h1 : (pre.length : Int) < lenI l := by simp [e, lenI]; omega
      have h2 : pre.length < l.length := by simp [e]
      have hx : getI l (pre.length : Int) = x := by rw [e, getI_mid]
      simp only [patch_Check_s1, dec_t h1, if_true, hx]
      rw [req_t (by omega), node_Good_eq, some_bind]
      cases hg : itGood x with
      | false => right; simp [chk, hg]
      | true =>
        simp only [Bool.not_true, Bool.false_eq_true, if_false]
        rcases List.eq_nil_or_concat pre with rfl | ⟨pre', a, rfl⟩
        · left
          refine ⟨(), by simpa using hg, ?_, by simp [chk, hg]; rfl⟩
          rw [wrap_id (by simp)]
          simp
        · rw [List.concat_eq_append] at *
          have ha : itGood a = true := hI a (by simp)
          have hp : getI l ((((pre' ++ [a]).length : Nat) : Int) - 1) = a := by rw [e]; exact last_mid _ _ _
          have h0 : ((((pre' ++ [a]).length : Nat) : Int) == 0) = false := by simp; omega
          rw [h0, if_neg (by simp), wrap_id (by omega), hp, req_t (by rw [lenI]; simp at h2 ⊢; omega), bits_Over_eq, some_bind, bits_Over_eq, bits_Order_eq]
          simp only
          rw [over_good ha hg, over_good hg ha]
          have hbad : bad a x = (overI a x || (overI x a || decide (0 ≤ ord a.bits x.bits))) := by
            unfold bad
            congr 2
            have := ord_neg a.bits x.bits
            cases hlt : lt a.bits x.bits with
            | true => have := this.2 hlt; simp; omega
            | false =>
              have : ¬ ord a.bits x.bits < 0 := fun q => by rw [this.1 q] at hlt; cases hlt
              simp; omega
          cases hb : bad a x with
          | true =>
            right
            rw [hb] at hbad
            cases o1 : overI a x with
            | true => simp [chk, hg, hb]
            | false =>
              cases o2 : overI x a with
              | true => simp [chk, hg, hb]
              | false => rw [o1, o2] at hbad; simp at hbad; simp [chk, hg, hb, hbad]
          | false =>
            left
            rw [hb] at hbad
            have := hbad.symm
            simp only [Bool.or_eq_false_iff] at this
            obtain ⟨o1, o2, o3⟩ := this
            refine ⟨(), by simpa using hg, ?_, by simp [chk, hg, hb]⟩
            rw [o1, o2]
            simp only [Bool.false_eq_true, if_false, some_bind, o3]
            rw [wrap_id (by omega)]
            rfl
/-! ### copies -/
theorem l16_Told_eq (l : List Item) (n : Nat) (hn : n ≤ 1000000) : l16_Told l (n : Int) = some (l.take n) := by
  unfold l16_Told
  have := iter_to (step := l16_Told_s1 l (n : Int)) (fun k => ((k : Int), l.take k)) (min n l.length) (b := ((min n l.length : Int), l.take n)) (fun k hk => ?_) ?_
  · rw [show ([] : List Item) = l.take 0 by simp, show ((0 : Int)) = ((0 : Nat) : Int) from rfl, this, some_bind]
  · have h1 : (k : Int) < lenI l := by simp [lenI]; omega
    have h2 : k < l.length := by omega
    simp only [l16_Told_s1, dec_t h1, if_true, some_bind]
    rw [dec_t (by omega), if_pos rfl, req_t (by omega), getI_nat _ _ h2]
    unfold l15_Told
    rw [some_bind, req_t (by simp [LIM]; omega), wrap_id (by omega), List.take_succ_eq_append_getElem h2]
    rfl
  · simp only [l16_Told_s1]
    by_cases h : n < l.length
    · rw [dec_t (by simp [lenI]; omega), if_pos rfl, some_bind, dec_f (by omega), if_neg (by simp)]
      rw [show min n l.length = n by omega]
      congr 3; omega
    · rw [dec_f (by simp [lenI]; omega), if_neg (by simp), some_bind, if_neg (by simp)]
      rw [show min n l.length = l.length by omega, List.take_of_length_le (show l.length ≤ n by omega)]
      simp; omega
def cutP (p : Proof) : Proof := ⟨p.end_, p.leaf, p.a, p.b, p.path.take 300⟩
theorem l18_Cut_eq (p : Proof) : l18_Cut p = some (cutP p) := by
  unfold l18_Cut cutP
  by_cases h : 300 < p.path.length
  · rw [dec_t (by simp [lenI]; omega), if_pos rfl, req_t (by simp [lenI]; omega), show ((300 : Int)) = ((300 : Nat) : Int) from rfl, cutL_to]
  · rw [dec_f (by simp [lenI]; omega), if_neg (by simp), List.take_of_length_le (by omega)]
theorem l18_Told_eq (p : Proof) (h : p.path.length ≤ 300) : l18_Told p = some p := by
  unfold l18_Told l15_Told
  rw [some_bind, some_bind, show ((300 : Int)) = ((300 : Nat) : Int) from rfl, l16_Told_eq _ _ (by omega), some_bind, List.take_of_length_le h]
end
end Go.Ch
end
section
/- Readers: the program's, the document's. -/
set_option linter.unusedVariables false
set_option linter.unusedSimpArgs false
namespace Go.Ch
open Go.RowKit (wrap64)
noncomputable section

def Rd.ok (r : Rd) : Prop := 0 ≤ r.at_ ∧ r.at_ ≤ (r.s.length : Int) ∧ r.s.length ≤ 100000 ∧ r.err ≠ 3
def takeS (r : Rd) (n : Nat) : Str × Rd :=
  if r.err ≠ 0 then ([], r) else if r.s.length < r.at_.toNat + n then ([], ⟨r.s, r.at_, 5⟩) else ((r.s.drop r.at_.toNat).take n, ⟨r.s, r.at_ + n, r.err⟩)
theorem takeS_ok (r : Rd) (n : Nat) (h : r.ok) : (takeS r n).2.ok := by
  obtain ⟨h1, h2, h3, h4⟩ := h
  unfold takeS
  split
  · exact ⟨h1, h2, h3, h4⟩
  · split
    · exact ⟨h1, h2, h3, by simp⟩
    · exact ⟨by simp only; omega, by simp only; omega, h3, h4⟩
theorem takeS_err (r : Rd) (n : Nat) : (takeS r n).2.err ≠ 0 → (takeS r n).1 = [] := by
  unfold takeS
  split
  · simp
  · split
    · simp
    · rename_i h _; simp only; intro q; exact absurd (by simpa using h) q
theorem takeS_len (r : Rd) (n : Nat) (h : r.ok) : (takeS r n).2.err = 0 → (takeS r n).1.length = n := by
  obtain ⟨h1, h2, h3, h4⟩ := h
  unfold takeS
  split
  · rename_i q; intro e; exact absurd e q
  · split
    · intro e; simp at e
    · intro _; simp only [List.length_take, List.length_drop]; omega
theorem takeS_le (r : Rd) (n : Nat) : (takeS r n).1.length ≤ n := by
  unfold takeS
  split
  · simp
  · split
    · simp
    · simp only [List.length_take]; omega
theorem code_Reader_take_eq (r : Rd) (n : Nat) (h : r.ok) (hn : n ≤ 100000) : code_Reader_take r (n : Int) = some (takeS r n) := by
  obtain ⟨h1, h2, h3, h4⟩ := h
  unfold code_Reader_take takeS
  by_cases he : r.err = 0
  · rw [show (r.err == 0) = true by simp [he], if_pos rfl, some_bind, wrap_id (by rw [lenI]; omega)]
    by_cases hl : r.s.length < r.at_.toNat + n
    · rw [dec_t (by rw [lenI]; omega), if_pos rfl, if_pos (by decide), if_neg (by simp [he]), if_pos hl]
    · rw [dec_f (by rw [lenI]; omega), if_neg (by simp), show (r.err != 0) = false by simp [he], if_neg (by simp), wrap_id (n := r.at_ + n) (by omega), wrap_id (by omega), req_t (by rw [lenI]; omega), if_neg (by simp [he]), if_neg hl]
      congr 2
      unfold cutL
      congr 1
      · omega
      · congr 1; omega
  · rw [show (r.err == 0) = false by simpa using he, if_neg (by simp), some_bind, if_neg (by simp), show (r.err != 0) = true by simpa using he, if_pos rfl, if_pos he]
theorem r02_Take_eq (r : Rd) (n : Nat) (h : r.ok) (hn : n ≤ 100000) : r02_Take r (n : Int) = some ((takeS r n).2, (takeS r n).1) := by
  obtain ⟨h1, h2, h3, h4⟩ := h
  unfold r02_Take takeS
  by_cases he : r.err = 0
  · rw [show (r.err == 0) = true by simp [he], if_pos rfl, some_bind, wrap_id (by rw [lenI]; omega)]
    by_cases hl : r.s.length < r.at_.toNat + n
    · rw [dec_t (by rw [lenI]; omega), if_pos rfl, if_pos (by decide), if_neg (by simp [he]), if_pos hl]
    · rw [dec_f (by rw [lenI]; omega), if_neg (by simp), show (r.err != 0) = false by simp [he], if_neg (by simp), wrap_id (n := r.at_ + n) (by omega), req_t (by rw [lenI]; omega), if_neg (by simp [he]), if_neg hl]
      congr 2
      unfold cutL
      congr 1
      omega
  · rw [show (r.err == 0) = false by simpa using he, if_neg (by simp), some_bind, if_neg (by simp), show (r.err != 0) = true by simpa using he, if_pos rfl, if_pos he]
def failS (r : Rd) (e : Int) : Rd := if r.err = 0 then ⟨r.s, r.at_, e⟩ else r
theorem code_Reader_fail_eq (r : Rd) (e : Int) : code_Reader_fail r e = some (failS r e) := by
  unfold code_Reader_fail failS; by_cases h : r.err = 0 <;> simp [h]
theorem r02_Fail_eq (r : Rd) (e : Int) : r02_Fail r e = some (failS r e) := by
  unfold r02_Fail failS; by_cases h : r.err = 0 <;> simp [h]
theorem failS_ok (r : Rd) (e : Int) (he : e ≠ 3) (h : r.ok) : (failS r e).ok := by
  unfold failS; split
  · exact ⟨h.1, h.2.1, h.2.2.1, he⟩
  · exact h

/-! ### numbers -/
def numV (t : List UInt8) : Nat := t.foldl (fun a c => a * 256 + c.toNat) 0
theorem numV_snoc (t : List UInt8) (c : UInt8) : numV (t ++ [c]) = numV t * 256 + c.toNat := by simp [numV]
theorem numV_lt (t : List UInt8) : numV t < 256 ^ t.length := by
  induction t using snoc_ind with
  | nil => simp [numV]
  | snoc t c ih =>
    rw [numV_snoc, List.length_append, List.length_singleton, Nat.pow_succ]
    have := c.toNat_lt
    have : numV t + 1 ≤ 256 ^ t.length := ih
    have := Nat.mul_le_mul_right 256 this
    omega
theorem numV_head (d : UInt8) (hd : d.toNat ≤ 127) (t : List UInt8) : numV (d :: t) < 128 * 256 ^ t.length := by
  induction t using snoc_ind with
  | nil => simp [numV]; omega
  | snoc t c ih =>
    rw [← List.cons_append, numV_snoc, List.length_append, List.length_singleton, Nat.pow_succ]
    have := c.toNat_lt
    have : numV (d :: t) + 1 ≤ 128 * 256 ^ t.length := ih
    have := Nat.mul_le_mul_right 256 this
    have e : 128 * (256 ^ t.length * 256) = 128 * 256 ^ t.length * 256 := by rw [Nat.mul_assoc]
    omega
/-- A number's bytes in form: what stands ahead of the last one is below 2^55. -/
theorem numV_pre (d : UInt8) (r : List UInt8) (hl : r.length ≤ 7) (h8 : r.length = 7 → d.toNat ≤ 127) (pre : List UInt8) (c : UInt8) (post : List UInt8) (e : d :: r = pre ++ c :: post) : numV pre < 2 ^ 55 := by
  have hlen := congrArg List.length e
  simp at hlen
  cases pre with
  | nil => simp [numV]
  | cons p pre =>
    simp only [List.cons_append, List.cons.injEq] at e
    obtain ⟨rfl, e⟩ := e
    simp at hlen
    by_cases h7 : r.length = 7
    · have := numV_head d (h8 h7) pre
      have : 256 ^ pre.length ≤ 256 ^ 6 := Nat.pow_le_pow_right (by omega) (by omega)
      calc numV (d :: pre) < 128 * 256 ^ pre.length := by assumption
        _ ≤ 128 * 256 ^ 6 := Nat.mul_le_mul_left _ this
        _ = 2 ^ 55 := by decide
    · have := numV_lt (d :: pre)
      have : 256 ^ (d :: pre).length ≤ 256 ^ 6 := Nat.pow_le_pow_right (by omega) (by simp; omega)
      calc numV (d :: pre) < 256 ^ (d :: pre).length := by assumption
        _ ≤ 256 ^ 6 := this
        _ ≤ 2 ^ 55 := by decide
theorem numV_all (d : UInt8) (r : List UInt8) (hl : r.length ≤ 7) (h8 : r.length = 7 → d.toNat ≤ 127) : numV (d :: r) < 2 ^ 63 := by
  rcases List.eq_nil_or_concat r with rfl | ⟨m, c, rfl⟩
  · have := numV_lt [d]
    simp at this
    omega
  · rw [List.concat_eq_append] at *
    have := numV_pre d (m ++ [c]) hl h8 (d :: m) c [] (by simp)
    rw [← List.cons_append, numV_snoc]
    have := c.toNat_lt
    omega
theorem or_shl (a : Nat) (c : UInt8) (h : a < 2 ^ 55) : bitsI .or .i64 (shlInt (a : Int) 8) ((c.toNat : Nat) : Int) = ((a * 256 + c.toNat : Nat) : Int) := by
  have hc := c.toNat_lt
  have e1 : shlInt (a : Int) 8 = ((a * 256 : Nat) : Int) := by
    have : shlInt (a : Int) 8 = IntKind.i64.wrap ((a : Int) * 256) := rfl
    rw [this, wrap_i64, wrap_id (by omega)]; omega
  rw [e1]
  show IntKind.i64.wrap ((BitVec.ofInt 64 ((a * 256 : Nat) : Int) ||| BitVec.ofInt 64 ((c.toNat : Nat) : Int)).toNat : Int) = _
  rw [bv_of_nat, bv_of_nat, BitVec.toNat_or, BitVec.toNat_ofNat, BitVec.toNat_ofNat, Nat.mod_eq_of_lt (by omega), Nat.mod_eq_of_lt (by omega)]
  rw [show (a * 256 ||| c.toNat) = a * 256 + c.toNat from or_add a c.toNat 8 (by omega), wrap_i64, wrap_id (by omega)]

def numS (r : Rd) : Int × Rd :=
  match (takeS r 1).1 with
  | [] => (0, (takeS r 1).2)
  | c :: _ => if 8 < c.toNat then (0, failS (takeS r 1).2 4) else
    match (takeS (takeS r 1).2 c.toNat).1 with
    | [] => (0, (takeS (takeS r 1).2 c.toNat).2)
    | d :: _ => if d.toNat = 0 ∨ (c.toNat = 8 ∧ 127 < d.toNat) then (0, failS (takeS (takeS r 1).2 c.toNat).2 4)
      else ((numV (takeS (takeS r 1).2 c.toNat).1 : Int), (takeS (takeS r 1).2 c.toNat).2)
theorem u8_eq0 (d : UInt8) : (d == 0) = decide (d.toNat = 0) := by
  rw [Bool.eq_iff_iff]; simp [UInt8.toNat_inj.symm]
theorem u8_127 (d : UInt8) : decide ((127 : UInt8) < d) = decide (127 < d.toNat) := by
  rw [Bool.eq_iff_iff]; simp [UInt8.lt_iff_toNat_lt]
theorem u8_8 (d : UInt8) : decide ((8 : UInt8) < d) = decide (8 < d.toNat) := by
  rw [Bool.eq_iff_iff]; simp [UInt8.lt_iff_toNat_lt]
theorem u8_1 (d : UInt8) : decide ((1 : UInt8) < d) = decide (1 < d.toNat) := by
  rw [Bool.eq_iff_iff]; simp [UInt8.lt_iff_toNat_lt]
theorem take_fact (r : Rd) (n : Nat) (h : r.ok) {c : UInt8} {l : List UInt8} (e : (takeS r n).1 = c :: l) : (takeS r n).2.err = 0 ∧ l.length + 1 = n := by
  have h0 : (takeS r n).2.err = 0 := by
    apply Classical.byContradiction
    intro q
    rw [takeS_err r n q] at e; cases e
  have := takeS_len r n h h0
  rw [e] at this
  exact ⟨h0, by simpa using this⟩
theorem code_Number_eq (r : Rd) (h : r.ok) : code_Reader_Number r = some (numS r) := by
  have h1 := takeS_ok r 1 h
  unfold code_Reader_Number numS
  rw [show ((1 : Int)) = ((1 : Nat) : Int) from rfl, code_Reader_take_eq r 1 h (by omega), some_bind]
  cases e1 : (takeS r 1).1 with
  | nil => rfl
  | cons c l =>
    obtain ⟨p1, p2⟩ := take_fact r 1 h e1
    have hl : l = [] := List.length_eq_zero_iff.1 (by omega)
    subst hl
    have hc := c.toNat_lt
    rw [show ((c :: []) == ([] : Str)) = false from rfl, if_neg (by simp), req_t (by simp [lenI]), show getI [c] 0 = c from rfl]
    simp only
    by_cases h8 : 8 < c.toNat
    · rw [dec_t (by omega), if_pos rfl, if_pos h8, code_Reader_fail_eq, some_bind]
    · rw [dec_f (by omega), if_neg (by simp), if_neg h8, code_Reader_take_eq _ c.toNat h1 (by omega), some_bind]
      have h2 := takeS_ok (takeS r 1).2 c.toNat h1
      cases e2 : (takeS (takeS r 1).2 c.toNat).1 with
      | nil =>
        have : iter (code_Reader_Number_s1 (takeS r 1) (takeS (takeS r 1).2 c.toNat)) (0, 0) = some (.inr (0, 0)) := by
          refine iter_end ?_
          simp only [code_Reader_Number_s1, e2]
          rw [dec_f (by simp [lenI]), if_neg (by simp)]
        rw [this, some_bind]
      | cons d t =>
        obtain ⟨p3, p4⟩ := take_fact _ _ h1 e2
        simp only
        have hd := d.toNat_lt
        have g1 : getI (takeS r 1).1 0 = c := by rw [e1]; rfl
        have first : code_Reader_Number_s1 (takeS r 1) (takeS (takeS r 1).2 c.toNat) (0, 0) =
            if d.toNat = 0 ∨ (c.toNat = 8 ∧ 127 < d.toNat) then some (.inr (.inl (0, failS (takeS (takeS r 1).2 c.toNat).2 4))) else some (.inl (1, (d.toNat : Int))) := by
          simp only [code_Reader_Number_s1, e2, g1]
          rw [dec_t (by simp [lenI] <;> omega), if_pos rfl, req_t (by simp [lenI] <;> omega), show getI (d :: t) 0 = d from rfl, show ((0 : Int) == 0) = true from rfl, if_pos rfl, u8_eq0, u8_127, code_Reader_fail_eq]
          have hor : bitsI .or .i64 (shlInt 0 8) (d.toNat : Int) = (d.toNat : Int) := by
            have := or_shl 0 d (by decide)
            simpa using this
          by_cases q1 : d.toNat = 0
          · simp [q1]
          · by_cases q2 : c.toNat = 8
            · by_cases q3 : 127 < d.toNat
              · simp [q1, q2, q3]
              · simp [q1, q2, q3, hor]; exact wrap_id (by omega)
            · have q2' : ((c.toNat : Int) == 8) = false := by simp; omega
              simp [q1, q2, q2', hor]; exact wrap_id (by omega)
        by_cases hbad : d.toNat = 0 ∨ (c.toNat = 8 ∧ 127 < d.toNat)
        · rw [if_pos hbad] at first ⊢
          rw [iter_end first, some_bind]
        · rw [if_neg hbad] at first ⊢
          have hq : ∀ (pre : List UInt8) (x : UInt8) (post : List UInt8), d :: t = pre ++ x :: post → pre ≠ [] → code_Reader_Number_s1 (takeS r 1) (takeS (takeS r 1).2 c.toNat) ((pre.length : Int), (numV pre : Int)) = some (.inl (((pre.length + 1 : Nat) : Int), (numV (pre ++ [x]) : Int))) := by
            intro pre x post e hpre
            have hlen := congrArg List.length e
            simp at hlen
            have hp : 0 < pre.length := List.length_pos_iff.2 hpre
            simp only [code_Reader_Number_s1, e2]
            rw [dec_t (by simp [lenI]; omega), if_pos rfl, req_t (by simp [lenI]; omega), show ((pre.length : Int) == 0) = false by simp; omega, if_neg (by simp), some_bind, if_neg (by simp)]
            have gx : getI (d :: t) (pre.length : Int) = x := by rw [e, getI_mid]
            rw [gx, or_shl _ _ (numV_pre d t (by omega) (by omega) pre x post e), wrap_id (by omega), numV_snoc]
            rfl
          have key : ∀ (post pre : List UInt8), d :: t = pre ++ post → pre ≠ [] → iter (code_Reader_Number_s1 (takeS r 1) (takeS (takeS r 1).2 c.toNat)) ((pre.length : Int), (numV pre : Int)) = some (.inr (((d :: t).length : Int), (numV (d :: t) : Int))) := by
            intro post
            induction post with
            | nil =>
              intro pre e hpre
              simp at e
              rw [← e]
              refine iter_end ?_
              simp only [code_Reader_Number_s1, e2]
              rw [dec_f (by simp [lenI]), if_neg (by simp)]
            | cons x post ih =>
              intro pre e hpre
              have := ih (pre ++ [x]) (by simp [e]) (by simp)
              refine iter_next (hq pre x post e hpre) ?_
              simpa using this
          have k2 := key t [d] rfl (by simp)
          have e0 : numV [d] = d.toNat := by simp [numV]
          rw [e0] at k2
          rw [iter_next first k2, some_bind]
theorem r02_Number_eq' (r : Rd) (h : r.ok) : r02_ReadNumber r = some ((numS r).2, (numS r).1) := by
  have h1 := takeS_ok r 1 h
  unfold r02_ReadNumber numS
  rw [show ((1 : Int)) = ((1 : Nat) : Int) from rfl, r02_Take_eq r 1 h (by omega), some_bind]
  cases e1 : (takeS r 1).1 with
  | nil =>
    have : (takeS r 1).2.err ≠ 0 := by
      intro q
      have := takeS_len r 1 h q
      rw [e1] at this; simp at this
    simp only
    rw [show ((takeS r 1).2.err != 0) = true by simpa using this, if_pos rfl]
  | cons c l =>
    obtain ⟨p1, p2⟩ := take_fact r 1 h e1
    have hl : l = [] := List.length_eq_zero_iff.1 (by omega)
    subst hl
    have hc := c.toNat_lt
    simp only
    rw [show ((takeS r 1).2.err != 0) = false by simp [p1], if_neg (by simp), req_t (by simp [lenI]), show getI [c] 0 = c from rfl, u8_8]
    by_cases h8 : 8 < c.toNat
    · rw [dec_t h8, if_pos rfl, if_pos h8, r02_Fail_eq, some_bind]
    · rw [dec_f h8, if_neg (by simp), if_neg h8, req_t (by simp [lenI]), r02_Take_eq _ c.toNat h1 (by omega), some_bind]
      have h2 := takeS_ok (takeS r 1).2 c.toNat h1
      cases e2 : (takeS (takeS r 1).2 c.toNat).1 with
      | nil =>
        simp only
        rw [show (lenI ([] : Str) == 0) = true from rfl]
        cases ((takeS (takeS r 1).2 c.toNat).2.err != 0) <;> rfl
      | cons d t =>
        obtain ⟨p3, p4⟩ := take_fact _ _ h1 e2
        have hd := d.toNat_lt
        simp only
        rw [show ((takeS (takeS r 1).2 c.toNat).2.err != 0) = false by simp [p3], if_neg (by simp), show (lenI (d :: t) == 0) = false by simp [lenI] <;> omega, some_bind, if_neg (by simp), req_t (by simp [lenI] <;> omega), show getI (d :: t) 0 = d from rfl, u8_eq0, u8_127]
        have hcond : ((if decide (d.toNat = 0) = true then some true else ((if ((lenI (d :: t)) == (8 : Int)) = true then ((req ((0 : Int) ≤ (0 : Int) ∧ (0 : Int) < lenI (d :: t))).bind fun _ => some (decide (127 < d.toNat))) else some false).bind fun b52 => some b52)) : Option Bool) = some (decide (d.toNat = 0 ∨ (c.toNat = 8 ∧ 127 < d.toNat))) := by
          by_cases q1 : d.toNat = 0
          · simp [q1]
          · rw [dec_f q1, if_neg (by simp)]
            by_cases q2 : c.toNat = 8
            · rw [show (lenI (d :: t) == 8) = true by simp [lenI] <;> omega, if_pos rfl, req_t (by simp [lenI] <;> omega), some_bind]
              simp [q1, q2]
            · rw [show (lenI (d :: t) == 8) = false by simp [lenI]; omega, if_neg (by simp), some_bind]
              simp [q1, q2]
        rw [hcond, some_bind]
        by_cases hbad : d.toNat = 0 ∨ (c.toNat = 8 ∧ 127 < d.toNat)
        · rw [dec_t hbad, if_pos rfl, if_pos hbad, r02_Fail_eq, some_bind]
        · rw [dec_f hbad, if_neg (by simp), if_neg hbad]
          have hit := iter_fold (step := r02_ReadNumber_s1 ((takeS (takeS r 1).2 c.toNat).2, d :: t)) (fun k (s : Nat) => ((k : Int), (s : Int))) (d :: t) numV (b := (((d :: t).length : Int), (numV (d :: t) : Int))) (fun pre x post e => ?_) ?_
          · have hit' : iter (r02_ReadNumber_s1 ((takeS (takeS r 1).2 c.toNat).2, d :: t)) (0, 0) = some (((d :: t).length : Int), (numV (d :: t) : Int)) := hit
            rw [hit', some_bind]
          · have hx := x.toNat_lt
            have hlen := congrArg List.length e
            simp at hlen
            have hpre := numV_pre d t (by omega) (by omega) pre x post e
            simp only [r02_ReadNumber_s1]
            rw [dec_t (by simp [lenI]; omega), if_pos rfl, req_t (by simp [lenI]; omega)]
            have gx : getI (d :: t) (pre.length : Int) = x := by rw [e, getI_mid]
            rw [gx, wrap_id (n := (256 : Int) * (numV pre : Int)) (by omega), wrap_id (n := (pre.length : Int) + 1) (by omega), wrap_id (by omega), numV_snoc]
            congr 3
            omega
          · simp only [r02_ReadNumber_s1]
            rw [dec_f (by simp [lenI]), if_neg (by simp)]
theorem numS_ok (r : Rd) (h : r.ok) : (numS r).2.ok ∧ 0 ≤ (numS r).1 ∧ (numS r).1 < 9223372036854775808 := by
  have h1 := takeS_ok r 1 h
  unfold numS
  split
  · exact ⟨h1, by simp, by simp⟩
  · rename_i c l e1
    split
    · exact ⟨failS_ok _ _ (by simp) h1, by simp, by simp⟩
    · have h2 := takeS_ok (takeS r 1).2 c.toNat h1
      rename_i h8
      split
      · exact ⟨h2, by simp, by simp⟩
      · rename_i d t e2
        obtain ⟨p3, p4⟩ := take_fact _ _ h1 e2
        split
        · exact ⟨failS_ok _ _ (by simp) h2, by simp, by simp⟩
        · rename_i hb
          have := numV_all d t (by omega) (by omega)
          rw [e2]
          exact ⟨h2, by simp only; omega, by simp only; omega⟩
/-- Behind an error a number is 0. -/
theorem numS_err (r : Rd) (h : r.ok) (he : (numS r).2.err ≠ 0) : (numS r).1 = 0 := by
  revert he
  unfold numS
  split
  · intro _; rfl
  · split
    · intro _; rfl
    · split
      · intro _; rfl
      · rename_i c l e1 h8 d t e2
        split
        · intro _; rfl
        · intro q
          have := take_fact _ _ (takeS_ok r 1 h) e2
          exact absurd this.1 q
end
end Go.Ch
end
section
/- Readers: labels, flags, texts; items and leaves. -/
set_option linter.unusedVariables false
set_option linter.unusedSimpArgs false
namespace Go.Ch
open Go.RowKit (wrap64)
noncomputable section

theorem takeS_bad {r : Rd} (n : Nat) (h : r.err ≠ 0) : takeS r n = ([], r) := by unfold takeS; rw [if_pos h]
theorem code_take_bad {r : Rd} (a : Int) (h : r.err ≠ 0) : code_Reader_take r a = some ([], r) := by
  unfold code_Reader_take
  rw [show (r.err == 0) = false by simpa using h, if_neg (by simp), some_bind, if_neg (by simp), show (r.err != 0) = true by simpa using h, if_pos rfl]
theorem r02_take_bad {r : Rd} (a : Int) (h : r.err ≠ 0) : r02_Take r a = some (r, []) := by
  unfold r02_Take
  rw [show (r.err == 0) = false by simpa using h, if_neg (by simp), some_bind, if_neg (by simp), show (r.err != 0) = true by simpa using h, if_pos rfl]

/-! ### labels -/
def labS (r : Rd) : Lab × Rd := (overV zL (takeS r 32).1, (takeS r 32).2)
theorem code_Label_eq (r : Rd) (h : r.ok) : code_Reader_Label r = some (labS r) := by
  unfold code_Reader_Label labS
  rw [show ((32 : Int)) = ((32 : Nat) : Int) from rfl, code_Reader_take_eq r 32 h (by omega), some_bind, req_t (takeS_le r 32)]
theorem overV_snoc (t : List UInt8) (c : UInt8) (h : t.length < 32) : setV (overV zL t) (t.length : Int) c = overV zL (t ++ [c]) := by
  apply Vector.toList_inj.1
  have hz : zL.toList.length = 32 := by simp
  rw [setV_nat _ _ _ h, overV_toList, Vector.toList_set, overV_toList]
  unfold overL
  rw [List.take_of_length_le (by omega), List.take_of_length_le (by simp; omega), List.set_append, if_neg (by omega), Nat.sub_self, List.drop_eq_getElem_cons (by omega)]
  simp
theorem r02_Label_eq' (r : Rd) (h : r.ok) : r02_ReadLabel r = some ((labS r).2, (labS r).1) := by
  unfold r02_ReadLabel labS
  rw [show ((32 : Int)) = ((32 : Nat) : Int) from rfl, r02_Take_eq r 32 h (by omega), some_bind]
  have hl := takeS_le r 32
  have hit := iter_fold (step := r02_ReadLabel_s1 ((takeS r 32).2, (takeS r 32).1)) (fun k (s : Lab) => ((k : Int), s)) (takeS r 32).1 (overV zL) (b := (((takeS r 32).1.length : Int), overV zL (takeS r 32).1)) (fun pre x post e => ?_) ?_
  · have e0 : overV zL [] = zL := by
      apply Vector.toList_inj.1
      rw [overV_toList]; simp [overL]
    rw [e0] at hit
    have hit' : iter (r02_ReadLabel_s1 ((takeS r 32).2, (takeS r 32).1)) (0, zL) = some (((takeS r 32).1.length : Int), overV zL (takeS r 32).1) := hit
    rw [hit', some_bind]
  · have hlen := congrArg List.length e
    simp at hlen
    simp only [r02_ReadLabel_s1]
    rw [dec_t (by simp [lenI]; omega), if_pos rfl, req_t (by simp [lenI]; omega), req_t (by omega), e, getI_mid, wrap_id (by omega), overV_snoc _ _ (by omega)]
    rfl
  · simp only [r02_ReadLabel_s1]
    rw [dec_f (by simp [lenI]), if_neg (by simp)]
theorem labS_ok (r : Rd) (h : r.ok) : (labS r).2.ok := takeS_ok r 32 h

/-! ### flags -/
def flagS (r : Rd) : Bool × Rd :=
  match (takeS r 1).1 with
  | [] => (false, (takeS r 1).2)
  | c :: _ => if 1 < c.toNat then (false, failS (takeS r 1).2 4) else (c == 1, (takeS r 1).2)
theorem code_Flag_eq (r : Rd) (h : r.ok) : code_Reader_Flag r = some (flagS r) := by
  unfold code_Reader_Flag flagS
  rw [show ((1 : Int)) = ((1 : Nat) : Int) from rfl, code_Reader_take_eq r 1 h (by omega), some_bind]
  cases e1 : (takeS r 1).1 with
  | nil => rfl
  | cons c l =>
    obtain ⟨p1, p2⟩ := take_fact r 1 h e1
    have hl : l = [] := List.length_eq_zero_iff.1 (by omega)
    subst hl
    have e : cmpS .gtr [c] [1] = decide (1 < c.toNat) := by
      show (!(Op.bytesLess [c] [1] || [c] == [1])) = _
      rw [Bool.eq_iff_iff]
      simp [Op.bytesLess, UInt8.lt_iff_toNat_lt, ← UInt8.toNat_inj]
      omega
    simp only [e]
    by_cases q : 1 < c.toNat
    · rw [dec_t q, if_pos rfl, if_pos q, code_Reader_fail_eq, some_bind]
    · rw [dec_f q, if_neg (by simp), if_neg q]
      congr 2
      rw [Bool.eq_iff_iff]; simp
theorem r02_Flag_eq' (r : Rd) (h : r.ok) : r02_ReadFlag r = some ((flagS r).2, (flagS r).1) := by
  unfold r02_ReadFlag flagS
  rw [show ((1 : Int)) = ((1 : Nat) : Int) from rfl, r02_Take_eq r 1 h (by omega), some_bind]
  cases e1 : (takeS r 1).1 with
  | nil =>
    have : (takeS r 1).2.err ≠ 0 := by
      intro q
      have := takeS_len r 1 h q
      rw [e1] at this; simp at this
    simp only
    rw [show ((takeS r 1).2.err != 0) = true by simpa using this, if_pos rfl]
  | cons c l =>
    obtain ⟨p1, p2⟩ := take_fact r 1 h e1
    simp only
    rw [show ((takeS r 1).2.err != 0) = false by simp [p1], if_neg (by simp), req_t (by simp [lenI] <;> omega), show getI (c :: l) 0 = c from rfl, u8_1]
    by_cases q : 1 < c.toNat
    · rw [dec_t q, if_pos rfl, if_pos q, r02_Fail_eq, some_bind]
    · rw [dec_f q, if_neg (by simp), if_neg q, req_t (by simp [lenI] <;> omega)]
theorem flagS_ok (r : Rd) (h : r.ok) : (flagS r).2.ok := by
  have h1 := takeS_ok r 1 h
  unfold flagS
  split
  · exact h1
  · split
    · exact failS_ok _ _ (by simp) h1
    · exact h1

/-! ### texts -/
def textS (r : Rd) : Str × Rd := if (numS r).2.err = 0 ∧ 65536 < (numS r).1 then ([], failS (numS r).2 2) else takeS (numS r).2 (numS r).1.toNat
theorem failS_err {r : Rd} {e : Int} (he : e ≠ 0) : (failS r e).err ≠ 0 := by
  unfold failS
  split
  · exact he
  · assumption
theorem code_Text_eq (r : Rd) (h : r.ok) : code_Reader_Text r = some (textS r) := by
  have ⟨h1, h2, h3⟩ := numS_ok r h
  unfold code_Reader_Text textS
  rw [code_Number_eq r h, some_bind]
  by_cases he : (numS r).2.err = 0
  · rw [show ((numS r).2.err == 0) = true by simp [he], if_pos rfl, some_bind]
    by_cases hb : 65536 < (numS r).1
    · rw [dec_t hb, if_pos rfl, if_pos ⟨he, hb⟩, code_Reader_fail_eq, some_bind, code_take_bad _ (failS_err (by simp)), some_bind]
    · rw [dec_f hb, if_neg (by simp), if_neg (by simp [hb])]
      obtain ⟨n, hn⟩ : ∃ n : Nat, (numS r).1 = n := ⟨(numS r).1.toNat, by omega⟩
      rw [hn, code_Reader_take_eq _ n h1 (by omega), some_bind]
      simp
  · rw [show ((numS r).2.err == 0) = false by simpa using he, if_neg (by simp), some_bind, if_neg (by simp), if_neg (by simp [he]), code_take_bad _ he, some_bind, takeS_bad _ he]
theorem r02_Text_eq' (r : Rd) (h : r.ok) : r02_ReadText r = some ((textS r).2, (textS r).1) := by
  have ⟨h1, h2, h3⟩ := numS_ok r h
  unfold r02_ReadText textS
  rw [r02_Number_eq' r h, some_bind]
  by_cases he : (numS r).2.err = 0
  · simp only
    rw [show ((numS r).2.err == 0) = true by simp [he], if_pos rfl, some_bind]
    by_cases hb : 65536 < (numS r).1
    · rw [dec_t hb, if_pos rfl, if_pos ⟨he, hb⟩, r02_Fail_eq, some_bind, r02_take_bad _ (failS_err (by simp)), some_bind]
    · rw [dec_f hb, if_neg (by simp), if_neg (by simp [hb])]
      obtain ⟨n, hn⟩ : ∃ n : Nat, (numS r).1 = n := ⟨(numS r).1.toNat, by omega⟩
      rw [hn, r02_Take_eq _ n h1 (by omega), some_bind]
      simp
  · simp only
    rw [show ((numS r).2.err == 0) = false by simpa using he, if_neg (by simp), some_bind, if_neg (by simp), if_neg (by simp [he]), r02_take_bad _ he, some_bind, takeS_bad _ he]
theorem textS_ok (r : Rd) (h : r.ok) : (textS r).2.ok := by
  have ⟨h1, h2, h3⟩ := numS_ok r h
  unfold textS
  split
  · exact failS_ok _ _ (by simp) h1
  · exact takeS_ok _ _ h1
theorem takeS_small (r : Rd) (n : Nat) (h : r.ok) : (takeS r n).1.length ≤ 100000 := by
  obtain ⟨h1, h2, h3, h4⟩ := h
  unfold takeS
  split
  · simp
  · split
    · simp
    · simp; omega
theorem textS_len (r : Rd) (h : r.ok) : (textS r).1.length ≤ 100000 := by
  have ⟨h1, h2, h3⟩ := numS_ok r h
  unfold textS
  split
  · simp
  · exact takeS_small _ _ h1

/-! ### the end -/
def doneS (r : Rd) : Int := if r.err = 0 ∧ r.at_ < r.s.length then 3 else r.err
theorem code_Done_eq (r : Rd) : code_Reader_Done r = some (doneS r, r) := by
  unfold code_Reader_Done doneS
  by_cases he : r.err = 0
  · by_cases hb : r.at_ < r.s.length
    · simp [he, hb, lenI]
    · simp [he, hb, lenI]
  · simp [he]
theorem r02_Done_eq (r : Rd) : r02_Done r = some (doneS r) := by
  unfold r02_Done doneS
  by_cases he : r.err = 0
  · by_cases hb : r.at_ < r.s.length
    · simp [he, hb, lenI]
    · simp [he, hb, lenI]
  · simp [he]
/-- The program's test for an error ahead of the end. -/
theorem done_test (r : Rd) (h : r.ok) : (if (doneS r != (0 : Int)) = true then some (doneS r != (3 : Int)) else some false) = some (decide (r.err ≠ 0)) := by
  obtain ⟨_, _, _, h4⟩ := h
  unfold doneS
  by_cases he : r.err = 0
  · by_cases hb : r.at_ < r.s.length
    · simp [he, hb]
    · simp [he, hb]
  · have : (r.err == 3) = false := by simpa using h4
    simp [he, h4]
theorem done_bad (r : Rd) (h : r.err ≠ 0) : doneS r = r.err := by unfold doneS; rw [if_neg (by simp [h])]

def openS (s : Str) : Rd := ⟨s, 0, if 65536 < s.length then 2 else 0⟩
theorem code_Open_eq (s : Str) : code_Open s = some (openS s) := by
  unfold code_Open openS
  by_cases h : 65536 < s.length
  · rw [dec_t (by simp [lenI]; omega), if_pos rfl, if_pos h]
  · rw [dec_f (by simp [lenI]; omega), if_neg (by simp), if_neg h]
theorem r02_Open_eq (s : Str) : r02_Open s = some (openS s) := by
  unfold r02_Open openS
  by_cases h : 65536 < s.length
  · rw [dec_t (by simp [lenI]; omega), if_pos rfl, if_pos h]
  · rw [dec_f (by simp [lenI]; omega), if_neg (by simp), if_neg h]
theorem openS_ok (s : Str) (h : s.length ≤ 100000) : (openS s).ok := by
  unfold openS
  refine ⟨by simp, by simp, h, ?_⟩
  simp only
  split <;> simp

def belowS (r : Rd) (n : Int) : Int × Rd := if n ≤ (numS r).1 then (0, failS (numS r).2 2) else numS r
theorem code_Below_eq (r : Rd) (n : Int) (h : r.ok) : code_Reader_Below r n = some (belowS r n) := by
  unfold code_Reader_Below belowS
  rw [code_Number_eq r h, some_bind]
  by_cases q : n ≤ (numS r).1
  · rw [dec_t q, if_pos rfl, if_pos q, code_Reader_fail_eq, some_bind]
  · rw [dec_f q, if_neg (by simp), if_neg q]

/-! ### items, leaves -/
def itemS (r : Rd) : Item × Rd :=
  (⟨(numS r).1, (labS (numS r).2).1, (labS (labS (numS r).2).2).1, (numS (labS (labS (numS r).2).2).2).1⟩, (numS (labS (labS (numS r).2).2).2).2)
theorem itemS_ok (r : Rd) (h : r.ok) : (itemS r).2.ok := (numS_ok _ (labS_ok _ (labS_ok _ (numS_ok r h).1))).1
theorem node_read_eq (r : Rd) (h : r.ok) : node_read r = some (itemS r) := by
  have h1 := (numS_ok r h).1
  have h2 := labS_ok _ h1
  have h3 := labS_ok _ h2
  unfold node_read itemS
  rw [code_Number_eq r h, some_bind, code_Label_eq _ h1, some_bind, code_Label_eq _ h2, some_bind, code_Number_eq _ h3, some_bind]
theorem r15_ReadItem_eq (r : Rd) (h : r.ok) : r15_ReadItem r = some ((itemS r).2, (itemS r).1) := by
  have h1 := (numS_ok r h).1
  have h2 := labS_ok _ h1
  have h3 := labS_ok _ h2
  unfold r15_ReadItem itemS
  rw [r02_Number_eq' r h, some_bind, r02_Label_eq' _ h1, some_bind, r02_Label_eq' _ h2, some_bind, r02_Number_eq' _ h3, some_bind]
def leafS (r : Rd) : Leaf × Rd := (⟨(labS r).1, (labS (labS r).2).1, (numS (labS (labS r).2).2).1⟩, (numS (labS (labS r).2).2).2)
theorem leafS_ok (r : Rd) (h : r.ok) : (leafS r).2.ok ∧ 0 ≤ (leafS r).1.at_ :=
  have q := numS_ok _ (labS_ok _ (labS_ok r h))
  ⟨q.1, q.2.1⟩
theorem r15_ReadLeaf_eq (r : Rd) (h : r.ok) : r15_ReadLeaf r = some ((leafS r).2, (leafS r).1) := by
  have h1 := labS_ok r h
  have h2 := labS_ok _ h1
  unfold r15_ReadLeaf leafS
  rw [r02_Label_eq' r h, some_bind, r02_Label_eq' _ h1, some_bind, r02_Number_eq' _ h2, some_bind]

/-! ### nodes -/
def nodeS (s : Str) : Nd × Int :=
  if (flagS (openS s)).1 = true then
    let a := itemS (flagS (openS s)).2
    let b := itemS a.2
    if doneS b.2 ≠ 0 then (.nil, doneS b.2) else if pairErr a.1 b.1 ≠ 0 then (.nil, pairErr a.1 b.1) else (.inner ⟨a.1, b.1⟩, 0)
  else
    let l := leafS (flagS (openS s)).2
    if doneS l.2 ≠ 0 then (.nil, doneS l.2) else if leafErr l.1 ≠ 0 then (.nil, leafErr l.1) else (.leaf l.1, 0)
theorem bne_t {a b : Int} (h : a ≠ b) : (a != b) = true := by simpa using h
theorem bne_f {a b : Int} (h : ¬ a ≠ b) : (a != b) = false := by simpa using h
theorem node_Read_eq (s : Str) (h : s.length ≤ 100000) : node_Read s = some (nodeS s) := by
  have h0 := openS_ok s h
  have h1 := flagS_ok _ h0
  unfold node_Read nodeS
  rw [code_Open_eq, some_bind, code_Flag_eq _ h0, some_bind]
  by_cases hf : (flagS (openS s)).1 = true
  · rw [if_pos hf, if_pos hf, node_read_eq _ h1, some_bind, node_read_eq _ (itemS_ok _ h1), some_bind, code_Done_eq, some_bind]
    simp only
    by_cases hd : doneS (itemS (itemS (flagS (openS s)).2).2).2 ≠ 0
    · rw [bne_t hd, if_pos rfl, if_pos hd]
    · rw [bne_f hd, if_neg (by simp), if_neg hd, node_Check_inner, some_bind]
      simp only
      by_cases hp : pairErr (itemS (flagS (openS s)).2).1 (itemS (itemS (flagS (openS s)).2).2).1 ≠ 0
      · rw [bne_t hp, if_pos rfl, if_pos hp]
      · rw [bne_f hp, if_neg (by simp), if_neg hp]
  · have h2 := labS_ok _ h1
    have h3 := labS_ok _ h2
    rw [if_neg hf, if_neg hf, code_Label_eq _ h1, some_bind, code_Label_eq _ h2, some_bind, code_Number_eq _ h3, some_bind, code_Done_eq, some_bind]
    show (if (doneS (leafS (flagS (openS s)).2).2 != 0) = true then _ else _) = _
    simp only
    by_cases hd : doneS (leafS (flagS (openS s)).2).2 ≠ 0
    · rw [bne_t hd, if_pos rfl, if_pos hd]; rfl
    · rw [bne_f hd, if_neg (by simp), if_neg hd, node_Check_leaf, some_bind]
      show (if (leafErr (leafS (flagS (openS s)).2).1 != 0) = true then _ else _) = _
      by_cases hp : leafErr (leafS (flagS (openS s)).2).1 ≠ 0
      · rw [bne_t hp, if_pos rfl, if_pos hp]; rfl
      · rw [bne_f hp, if_neg (by simp), if_neg hp]; rfl
/-- The document's reading of a node. -/
def nodeT : Nd × Int → Leaf × Item × Item × Bool × Int
  | (.leaf l, e) => (l, ⟨0, zL, zL, 0⟩, ⟨0, zL, zL, 0⟩, false, e)
  | (.inner x, e) => (⟨zL, zL, 0⟩, x.l, x.r, true, e)
  | (.nil, e) => (⟨zL, zL, 0⟩, ⟨0, zL, zL, 0⟩, ⟨0, zL, zL, 0⟩, false, e)
theorem r15_Read_eq (s : Str) (h : s.length ≤ 100000) : r15_Read s = some (nodeT (nodeS s)) := by
  have h0 := openS_ok s h
  have h1 := flagS_ok _ h0
  unfold r15_Read nodeS
  rw [r02_Open_eq, some_bind, r02_Flag_eq' _ h0, some_bind]
  simp only
  by_cases hf : (flagS (openS s)).1 = true
  · rw [if_pos hf, if_pos hf, r15_ReadItem_eq _ h1, some_bind, r15_ReadItem_eq _ (itemS_ok _ h1), some_bind, r02_Done_eq, some_bind]
    by_cases hd : doneS (itemS (itemS (flagS (openS s)).2).2).2 ≠ 0
    · rw [bne_t hd, if_pos rfl, if_pos hd]; rfl
    · rw [bne_f hd, if_neg (by simp), if_neg hd, if_pos hf, r15_Check_eq, some_bind]
      by_cases hp : pairErr (itemS (flagS (openS s)).2).1 (itemS (itemS (flagS (openS s)).2).2).1 ≠ 0
      · rw [bne_t hp, if_pos rfl, if_pos hp]; rfl
      · rw [bne_f hp, if_neg (by simp), if_neg hp, hf]; rfl
  · rw [if_neg hf, if_neg hf, r15_ReadLeaf_eq _ h1, some_bind, r02_Done_eq, some_bind]
    by_cases hd : doneS (leafS (flagS (openS s)).2).2 ≠ 0
    · rw [bne_t hd, if_pos rfl, if_pos hd]; rfl
    · rw [bne_f hd, if_neg (by simp), if_neg hd, if_neg hf]
      have hge := (leafS_ok _ h1).2
      have e : leafErr (leafS (flagS (openS s)).2).1 = if 1073741824 < (leafS (flagS (openS s)).2).1.at_ then 1 else 0 := by
        unfold leafErr
        by_cases q : 1073741824 < (leafS (flagS (openS s)).2).1.at_
        · rw [if_pos q, if_pos (.inr q)]
        · rw [if_neg q, if_neg (by omega)]
      have hf' : (flagS (openS s)).1 = false := by simpa using hf
      rw [e, hf']
      by_cases q : 1073741824 < (leafS (flagS (openS s)).2).1.at_
      · rw [dec_t q, if_pos rfl, if_pos (by decide), if_pos q, if_pos (by decide)]; rfl
      · rw [dec_f q, if_neg (by simp), if_neg (by decide), if_neg q, if_neg (by decide)]; rfl
end
end Go.Ch
end
section
/- Numbers, written; nodes, written. -/
set_option linter.unusedVariables false
set_option linter.unusedSimpArgs false
namespace Go.Ch
open Go.RowKit (wrap64)
noncomputable section

/-- A number's bytes, last k of them. -/
def lowB (n : Nat) : Nat → List UInt8
  | 0 => []
  | k + 1 => UInt8.ofNat (n / 256 ^ k) :: lowB n k
/-- How many bytes a number takes. -/
def sizeN : Nat → Nat → Nat
  | 0, _ => 0
  | f + 1, n => if n = 0 then 0 else sizeN f (n / 256) + 1
theorem sizeN_le : ∀ (f n : Nat), sizeN f n ≤ f
  | 0, _ => Nat.le_refl _
  | f + 1, n => by
    have := sizeN_le f (n / 256)
    rw [sizeN]
    split <;> omega
theorem lowB_len (n : Nat) : ∀ k, (lowB n k).length = k
  | 0 => rfl
  | k + 1 => by rw [lowB, List.length_cons, lowB_len n k]
theorem lowB_snoc (n : Nat) : ∀ k, lowB n (k + 1) = lowB (n / 256) k ++ [UInt8.ofNat n]
  | 0 => by simp [lowB]
  | k + 1 => by
    rw [lowB, lowB_snoc n k, lowB, List.cons_append]
    rw [Nat.pow_succ, Nat.mul_comm (256 ^ k) 256, ← Nat.div_div_eq_div_mul]
def numT (n : Nat) : List UInt8 := UInt8.ofNat (sizeN 8 n) :: lowB n (sizeN 8 n)
theorem numT_len (n : Nat) : (numT n).length ≤ 9 := by
  have := sizeN_le 8 n
  rw [numT, List.length_cons, lowB_len]; omega
theorem u8I_nat (n : Nat) : u8I (n : Int) = UInt8.ofNat n := by
  unfold u8I
  apply UInt8.toNat_inj.1
  rw [UInt8.toNat_ofNat', UInt8.toNat_ofNat']
  omega
theorem tmod256 (n : Nat) : Int.tmod (n : Int) 256 = ((n % 256 : Nat) : Int) := by
  rw [Int.tmod_eq_emod_of_nonneg (by omega)]; omega
theorem tdiv256 (n : Nat) : Int.tdiv (n : Int) 256 = ((n / 256 : Nat) : Int) := by
  rw [Int.tdiv_eq_ediv_of_nonneg (by omega)]; omega
theorem ofNat_mod (n : Nat) : UInt8.ofNat (n % 256) = UInt8.ofNat n := by
  apply UInt8.toNat_inj.1
  rw [UInt8.toNat_ofNat', UInt8.toNat_ofNat']; omega
theorem dig_loop : ∀ (f n : Nat) (acc : Str), n < 256 ^ f → n < 2 ^ 63 → acc.length + f ≤ 1000 → iter r02_Number_s1 ((n : Int), acc) = some (0, lowB n (sizeN f n) ++ acc)
  | 0, n, acc, h, _, _ => by
    have : n = 0 := by simpa using h
    subst this
    refine iter_end ?_
    simp only [r02_Number_s1]
    rw [dec_f (by simp), if_neg (by simp)]; rfl
  | f + 1, n, acc, h, hn, ha => by
    by_cases h0 : n = 0
    · subst h0
      refine iter_end ?_
      simp only [r02_Number_s1]
      rw [dec_f (by simp), if_neg (by simp), sizeN, if_pos rfl]; rfl
    · refine iter_next (s' := (((n / 256 : Nat) : Int), UInt8.ofNat n :: acc)) ?_ ?_
      · simp only [r02_Number_s1]
        rw [dec_t (by omega), if_pos rfl, req_t (by simp [LIM]; omega), tmod256, tdiv256, wrap_id (by omega), u8I_nat, ofNat_mod]
        rfl
      · rw [dig_loop f (n / 256) (UInt8.ofNat n :: acc) (by rw [Nat.pow_succ] at h; omega) (by omega) (by simp; omega), sizeN, if_neg h0, lowB_snoc]
        simp
theorem r02_Number_w (n : Nat) (h : n < 2 ^ 63) : r02_Number (n : Int) = some (numT n) := by
  unfold r02_Number
  have := sizeN_le 8 n
  rw [dig_loop 8 n [] (by omega) h (by simp), some_bind]
  simp only [List.append_nil]
  rw [req_t (by simp [lowB_len, LIM]; omega), lenI, lowB_len, u8I_nat]
  rfl
theorem shr_nat (n k : Nat) (hk : k ≤ 64) : shrInt (n : Int) (k : Int) = ((n / 2 ^ k : Nat) : Int) := by
  unfold shrInt shrI
  rw [show min (k : Int).toNat IntKind.i64.bits = k by rw [Int.toNat_natCast]; exact Nat.min_eq_left hk, Int.fdiv_eq_ediv_of_nonneg _ (by exact_mod_cast Nat.zero_le _)]
  rw [Int.natCast_ediv, Int.natCast_pow]; rfl
theorem size_loop : ∀ (f n c : Nat), n < 256 ^ f → n < 2 ^ 63 → c + f ≤ 1000 → iter code_Writer_Number_s1 ((n : Int), (c : Int)) = some (0, ((c + sizeN f n : Nat) : Int))
  | 0, n, c, h, _, _ => by
    have : n = 0 := by simpa using h
    subst this
    refine iter_end ?_
    simp only [code_Writer_Number_s1]
    rw [dec_f (by simp), if_neg (by simp)]; rfl
  | f + 1, n, c, h, hn, ha => by
    by_cases h0 : n = 0
    · subst h0
      refine iter_end ?_
      simp only [code_Writer_Number_s1]
      rw [dec_f (by simp), if_neg (by simp), sizeN, if_pos rfl]; rfl
    · refine iter_next (s' := (((n / 256 : Nat) : Int), ((c + 1 : Nat) : Int))) ?_ ?_
      · simp only [code_Writer_Number_s1]
        rw [dec_t (by omega), if_pos rfl, wrap_id (by omega), show ((8 : Int)) = ((8 : Nat) : Int) from rfl, shr_nat n 8 (by omega)]
        rfl
      · rw [size_loop f (n / 256) (c + 1) (by rw [Nat.pow_succ] at h; omega) (by omega) (by omega), sizeN, if_neg h0]
        congr 3; omega
theorem pow256 (k : Nat) : 256 ^ k = 2 ^ (8 * k) := by rw [Nat.pow_mul]
theorem down_loop (n : Nat) (h : n < 2 ^ 63) (e : Int) : ∀ (k : Nat) (b : List UInt8), k ≤ 8 → b.length + k ≤ 1000000 → iter (code_Writer_Number_s2 (n : Int)) ((k : Int) - 1, (⟨b, e⟩ : Wr)) = some (-1, ⟨b ++ lowB n k, e⟩)
  | 0, b, _, _ => by
    refine iter_end ?_
    simp only [code_Writer_Number_s2]
    rw [dec_f (by omega), if_neg (by simp)]; simp [lowB]
  | k + 1, b, hk, hb => by
    refine iter_next (s' := ((k : Int) - 1, (⟨b ++ [UInt8.ofNat (n / 256 ^ k)], e⟩ : Wr))) ?_ ?_
    · simp only [code_Writer_Number_s2]
      rw [dec_t (by omega), if_pos rfl, wrap_id (n := (8 : Int) * (((k + 1 : Nat) : Int) - 1)) (by omega), req_t (by omega), req_t (by simp [LIM]; omega), wrap_id (n := ((k + 1 : Nat) : Int) - 1 - 1) (by omega), show (8 : Int) * (((k + 1 : Nat) : Int) - 1) = ((8 * k : Nat) : Int) by omega, shr_nat n (8 * k) (by omega), u8I_nat, pow256]
      congr 3; omega
    · rw [down_loop n h e k _ (by omega) (by simp; omega), lowB]
      simp
theorem code_wNumber (b : List UInt8) (e : Int) (n : Nat) (h : n < 2 ^ 63) (hb : b.length ≤ 900000) : code_Writer_Number ⟨b, e⟩ (n : Int) = some ⟨b ++ numT n, e⟩ := by
  unfold code_Writer_Number
  have hs := sizeN_le 8 n
  rw [dec_f (by omega), if_neg (by simp), show ((n : Int), (0 : Int)) = ((n : Int), ((0 : Nat) : Int)) from rfl, size_loop 8 n 0 (by omega) h (by omega), some_bind]
  simp only [Nat.zero_add]
  rw [req_t (by simp [LIM]; omega), wrap_id (by omega), down_loop n h e _ _ hs (by simp; omega), some_bind, u8I_nat]
  simp [numT]
theorem code_wNeg (b : List UInt8) (n : Int) (h : n < 0) : code_Writer_Number ⟨b, 0⟩ n = some ⟨b, 1⟩ := by
  unfold code_Writer_Number code_Writer_fail
  rw [dec_t h, if_pos rfl]; rfl
theorem code_wLabel (b : List UInt8) (e : Int) (x : Lab) (hb : b.length ≤ 900000) : code_Writer_Label ⟨b, e⟩ x = some ⟨b ++ x.toList, e⟩ := by
  unfold code_Writer_Label
  rw [req_t (by simp [LIM]; omega)]
theorem code_wFlag (b : List UInt8) (e : Int) (x : Bool) (hb : b.length ≤ 900000) : code_Writer_Flag ⟨b, e⟩ x = some ⟨b ++ [if x then 1 else 0], e⟩ := by
  unfold code_Writer_Flag
  cases x
  · rw [if_neg (by simp), req_t (by simp [LIM]; omega)]; rfl
  · rw [if_pos rfl, req_t (by simp [LIM]; omega)]; rfl
theorem code_wText (b : List UInt8) (e : Int) (x : Str) (hb : b.length ≤ 800000) (hx : x.length ≤ 65536) : code_Writer_Text ⟨b, e⟩ x = some ⟨b ++ numT x.length ++ x, e⟩ := by
  unfold code_Writer_Text
  have := numT_len x.length
  rw [dec_f (by simp [lenI]; omega), if_neg (by simp), show lenI x = (x.length : Int) from rfl, code_wNumber b e _ (by omega) (by omega), some_bind, req_t (by simp [LIM]; omega)]
theorem code_wDone (b : List UInt8) (hb : b.length ≤ 65536) : code_Writer_Done ⟨b, 0⟩ = some (b, 0, ⟨b, 0⟩) := by
  unfold code_Writer_Done
  rw [if_neg (by simp), dec_f (by simp [lenI]; omega), if_neg (by simp)]
theorem r02_Text_w (x : Str) (h : x.length ≤ 65536) : r02_Text x = some (numT x.length ++ x) := by
  unfold r02_Text
  have := numT_len x.length
  rw [show lenI x = (x.length : Int) from rfl, r02_Number_w _ (by omega), some_bind, req_t (by simp [LIM]; omega)]

/-! ### items, nodes -/
def itemW (x : Item) : Str := numT x.len.toNat ++ x.bits.toList ++ x.sum.toList ++ numT x.at_.toNat
def leafW (l : Leaf) : Str := [0] ++ l.label.toList ++ l.value.toList ++ numT l.at_.toNat
theorem itemW_len (x : Item) : (itemW x).length ≤ 82 := by
  have := numT_len x.len.toNat
  have := numT_len x.at_.toNat
  simp [itemW]; omega
theorem leafW_len (x : Leaf) : (leafW x).length ≤ 82 := by
  have := numT_len x.at_.toNat
  simp [leafW]; omega
theorem good_nums {x : Item} (h : itGood x = true) : 0 ≤ x.len ∧ x.len ≤ 256 ∧ 0 ≤ x.at_ ∧ x.at_ ≤ 1073741824 := by
  unfold itGood at h
  simp only [Bool.and_eq_true, decide_eq_true_eq] at h
  have := good_iff.1 h.1
  exact ⟨this.1, this.2.1, h.2⟩
theorem writes (b : List UInt8) (e : Int) (x : Item) (hg : itGood x = true) (hb : b.length ≤ 800000) :
    ((code_Writer_Number ⟨b, e⟩ x.len).bind fun t5 => ((code_Writer_Label t5 x.bits).bind fun t11 => ((code_Writer_Label t11 x.sum).bind fun t17 => ((code_Writer_Number t17 x.at_).bind fun t22 => some t22)))) = some ⟨b ++ itemW x, e⟩ := by
  obtain ⟨h1, h2, h3, h4⟩ := good_nums hg
  obtain ⟨n, hn⟩ : ∃ n : Nat, x.len = n := ⟨x.len.toNat, by omega⟩
  obtain ⟨m, hm⟩ : ∃ n : Nat, x.at_ = n := ⟨x.at_.toNat, by omega⟩
  have := numT_len n
  unfold itemW
  rw [hn, hm, code_wNumber _ _ _ (by omega) (by omega), some_bind, code_wLabel _ _ _ (by simp; omega), some_bind, code_wLabel _ _ _ (by simp; omega), some_bind, code_wNumber _ _ _ (by omega) (by simp; omega), some_bind]
  simp
theorem node_write_eq (b : List UInt8) (e : Int) (x : Item) (hg : itGood x = true) (hb : b.length ≤ 800000) : node_write ⟨b, e⟩ x = some ⟨b ++ itemW x, e⟩ := writes b e x hg hb
theorem proof_write_eq (b : List UInt8) (e : Int) (x : Item) (hg : itGood x = true) (hb : b.length ≤ 800000) : proof_write ⟨b, e⟩ x = some ⟨b ++ itemW x, e⟩ := writes b e x hg hb
theorem r15_Write_eq (x : Item) (hg : itGood x = true) : r15_Write x = some (itemW x) := by
  obtain ⟨h1, h2, h3, h4⟩ := good_nums hg
  obtain ⟨n, hn⟩ : ∃ n : Nat, x.len = n := ⟨x.len.toNat, by omega⟩
  obtain ⟨m, hm⟩ : ∃ n : Nat, x.at_ = n := ⟨x.at_.toNat, by omega⟩
  have := numT_len n
  have := numT_len m
  unfold r15_Write r02_Label itemW
  rw [hn, hm, r02_Number_w _ (by omega), some_bind, some_bind, req_t (by simp [LIM]; omega), some_bind, req_t (by simp [LIM]; omega), r02_Number_w _ (by omega), some_bind, req_t (by simp [LIM]; omega)]
  simp
theorem leafErr_nums {l : Leaf} (h : leafErr l = 0) : 0 ≤ l.at_ ∧ l.at_ ≤ 1073741824 := by
  unfold leafErr at h
  split at h
  · cases h
  · omega
theorem node_Bytes_leaf (l : Leaf) : node_Bytes (.leaf l) = some (if leafErr l ≠ 0 then ([], leafErr l) else (leafW l, 0)) := by
  unfold node_Bytes
  rw [node_Check_leaf, some_bind]
  by_cases h : leafErr l = 0
  · obtain ⟨h1, h2⟩ := leafErr_nums h
    obtain ⟨m, hm⟩ : ∃ n : Nat, l.at_ = n := ⟨l.at_.toNat, by omega⟩
    have := numT_len m
    rw [show (leafErr l != 0) = false by simp [h], if_neg (by simp), if_neg (by simp [h])]
    simp only
    rw [code_wFlag _ _ _ (by simp), some_bind, code_wLabel _ _ _ (by simp), some_bind, code_wLabel _ _ _ (by simp), some_bind, hm, code_wNumber _ _ _ (by omega) (by simp), some_bind, code_wDone _ (by simp; omega), some_bind]
    simp [leafW, hm]
  · rw [show (leafErr l != 0) = true by simpa using h, if_pos rfl, if_pos h]
theorem r15_LeafText_eq (l : Leaf) (h : leafErr l = 0) : r15_LeafText l = some (leafW l) := by
  obtain ⟨h1, h2⟩ := leafErr_nums h
  obtain ⟨m, hm⟩ : ∃ n : Nat, l.at_ = n := ⟨l.at_.toNat, by omega⟩
  have := numT_len m
  unfold r15_LeafText r02_Label r02_Flag
  rw [if_neg (by simp), some_bind, some_bind, req_t (by simp [LIM]), some_bind, req_t (by simp [LIM]), hm, r02_Number_w _ (by omega), some_bind, req_t (by simp [LIM]; omega)]
  simp [leafW, hm]
theorem pairErr_good {a b : Item} (h : pairErr a b = 0) : itGood a = true ∧ itGood b = true := by
  unfold pairErr at h
  split at h
  · cases h
  · rename_i q
    simpa using q
theorem node_Bytes_inner (x : Inner) : node_Bytes (.inner x) = some (if pairErr x.l x.r ≠ 0 then ([], pairErr x.l x.r) else ([1] ++ itemW x.l ++ itemW x.r, 0)) := by
  unfold node_Bytes
  rw [node_Check_inner, some_bind]
  by_cases h : pairErr x.l x.r = 0
  · obtain ⟨h1, h2⟩ := pairErr_good h
    have := itemW_len x.l
    have := itemW_len x.r
    rw [show (pairErr x.l x.r != 0) = false by simp [h], if_neg (by simp), if_neg (by simp [h])]
    simp only
    rw [code_wFlag _ _ _ (by simp), some_bind, node_write_eq _ _ _ h1 (by simp), some_bind, node_write_eq _ _ _ h2 (by simp; omega), some_bind, code_wDone _ (by simp; omega), some_bind]
    simp
  · rw [show (pairErr x.l x.r != 0) = true by simpa using h, if_pos rfl, if_pos h]
end
end Go.Ch
end
section
/- A proof, read: the program's way, the document's way. -/
set_option linter.unusedVariables false
set_option linter.unusedSimpArgs false
namespace Go.Ch
open Go.RowKit (wrap64)
noncomputable section


theorem iter_same {σ β : Type} {f g : σ → Option (σ ⊕ β)} (I : Nat → σ → Prop) (Q : β → Prop)
    (hs : ∀ k s, I k s → ∃ r, f s = some r ∧ g s = some r ∧ (∀ s', r = .inl s' → ∃ j, j < k ∧ I j s') ∧ ∀ b, r = .inr b → Q b) :
    ∀ k s, I k s → ∃ b, iter f s = some b ∧ iter g s = some b ∧ Q b := by
  intro k
  induction k using Nat.strongRecOn with
  | _ k ih =>
    intro s h
    obtain ⟨r, h1, h2, h3, h4⟩ := hs k s h
    cases r with
    | inl s' =>
      obtain ⟨j, hj, hI⟩ := h3 s' rfl
      obtain ⟨b, b1, b2, b3⟩ := ih j hj s' hI
      exact ⟨b, iter_next h1 b1, iter_next h2 b2, b3⟩
    | inr b => exact ⟨b, iter_end h1, iter_end h2, h4 b rfl⟩

abbrev PSt : Type := Int × Str × Int × Int × List Item
/-- One round of the path. -/
def pstep (n : Int) : PSt → PSt ⊕ (Proof × Int ⊕ PSt)
  | (x, s, a, e, acc) => if x < n then
      (if (itemS ⟨s, a, e⟩).2.err ≠ 0 then .inr (.inl ((⟨0, (⟨zL, zL, 0⟩ : Leaf), (⟨0, zL, zL, 0⟩ : Item), (⟨0, zL, zL, 0⟩ : Item), []⟩ : Proof), (itemS ⟨s, a, e⟩).2.err)) else
        if itGood (itemS ⟨s, a, e⟩).1 = true then .inl (x + 1, (itemS ⟨s, a, e⟩).2.s, (itemS ⟨s, a, e⟩).2.at_, (itemS ⟨s, a, e⟩).2.err, acc ++ [(itemS ⟨s, a, e⟩).1]) else .inr (.inl ((⟨0, (⟨zL, zL, 0⟩ : Leaf), (⟨0, zL, zL, 0⟩ : Item), (⟨0, zL, zL, 0⟩ : Item), []⟩ : Proof), 1)))
    else .inr (.inr (x, s, a, e, acc))
theorem pstep_code (t : Int × Rd) (x : Int) (s : Str) (a e : Int) (acc : List Item) (h : (⟨s, a, e⟩ : Rd).ok) (hx : 0 ≤ x ∧ x ≤ 1000) (ha : acc.length ≤ 1000) :
    proof_Read_s1 t (x, s, a, e, acc) = some (pstep t.1 (x, s, a, e, acc)) := by
  simp only [proof_Read_s1, pstep]
  by_cases hl : x < t.1
  · have h1 := (numS_ok _ h).1
    have h2 := labS_ok _ h1
    have h3 := labS_ok _ h2
    have h4 := itemS_ok _ h
    rw [dec_t hl, if_pos rfl, if_pos hl, code_Number_eq _ h, some_bind, code_Label_eq _ h1, some_bind, code_Label_eq _ h2, some_bind, code_Number_eq _ h3, some_bind, code_Done_eq, some_bind]
    show (if (doneS (itemS ⟨s, a, e⟩).2 != (0 : Int)) = true then some (doneS (itemS ⟨s, a, e⟩).2 != (3 : Int)) else some false).bind _ = _
    rw [done_test _ h4, some_bind]
    by_cases he : (itemS ⟨s, a, e⟩).2.err = 0
    · rw [dec_f (by simp [he]), if_neg (by simp), if_neg (by simp [he])]
      show (node_Good (itemS ⟨s, a, e⟩).1).bind _ = _
      rw [node_Good_eq, some_bind]
      cases hg : itGood (itemS ⟨s, a, e⟩).1 with
      | false => rw [if_pos (by simp), if_neg (by simp)]
      | true =>
        rw [if_neg (by simp), if_pos rfl, req_t (by simp [LIM]; omega), wrap_id (by omega)]
        rfl
    · rw [dec_t he, if_pos rfl, if_pos he]
      show some (Sum.inr (Sum.inl (_, doneS (itemS ⟨s, a, e⟩).2))) = _
      rw [done_bad _ he]
  · rw [dec_f hl, if_neg (by simp), if_neg hl]
theorem pstep_read (t : Rd × Int) (x : Int) (s : Str) (a : Int) (acc : List Item) (h : (⟨s, a, 0⟩ : Rd).ok) (hx : 0 ≤ x ∧ x ≤ 1000) (ha : acc.length ≤ 1000) :
    r18_Read_s1 t (x, s, a, 0, acc) = some (pstep t.2 (x, s, a, 0, acc)) := by
  simp only [r18_Read_s1, pstep]
  by_cases hl : x < t.2
  · rw [dec_t hl, if_pos rfl, if_pos hl, some_bind, if_pos (by decide), r15_ReadItem_eq _ h, some_bind]
    simp only
    by_cases he : (itemS ⟨s, a, 0⟩).2.err = 0
    · rw [show ((itemS ⟨s, a, 0⟩).2.err != 0) = false by simp [he], if_neg (by simp), if_neg (by simp [he]), r15_Good_eq, some_bind]
      cases hg : itGood (itemS ⟨s, a, 0⟩).1 with
      | false => rw [if_pos (by simp), if_neg (by simp)]
      | true =>
        rw [if_neg (by simp), if_pos rfl, req_t (by simp [LIM]; omega), wrap_id (by omega)]
    · rw [bne_t he, if_pos rfl, if_pos he]
  · rw [dec_f hl, if_neg (by simp), if_neg hl, some_bind, if_neg (by simp)]
def pInv (n : Int) (k : Nat) (q : PSt) : Prop := (⟨q.2.1, q.2.2.1, q.2.2.2.1⟩ : Rd).ok ∧ q.2.2.2.1 = 0 ∧ 0 ≤ q.1 ∧ q.1 ≤ n ∧ n ≤ 256 ∧ (k : Int) = n - q.1 ∧ (q.2.2.2.2.length : Int) = q.1
def pEnd (b : Proof × Int ⊕ PSt) : Prop := match b with
  | .inl r => r.1.path.length ≤ 256
  | .inr q => (⟨q.2.1, q.2.2.1, q.2.2.2.1⟩ : Rd).ok ∧ q.2.2.2.2.length ≤ 256
theorem path_loops (t : Int × Rd) (u : Rd × Int) (htu : t.1 = u.2) (k : Nat) (q : PSt) (h : pInv t.1 k q) :
    ∃ b, iter (proof_Read_s1 t) q = some b ∧ iter (r18_Read_s1 u) q = some b ∧ pEnd b := by
  refine iter_same (pInv t.1) pEnd ?_ k q h
  rintro k ⟨x, s, a, e, acc⟩ ⟨h1, h2, h3, h4, h5, h6, h7⟩
  simp only at h1 h2 h3 h4 h6 h7
  subst h2
  refine ⟨_, pstep_code t x s a 0 acc h1 (by omega) (by omega), ?_, ?_, ?_⟩
  · rw [pstep_read u x s a acc h1 (by omega) (by omega), htu]
  · intro s' hs'
    simp only [pstep] at hs'
    split at hs'
    · rename_i hl
      split at hs'
      · cases hs'
      · rename_i he
        split at hs'
        · cases hs'
          exact ⟨k - 1, by omega, itemS_ok _ h1, by simpa using he, by simp only; omega, by simp only; omega, h5, by simp only; omega, by simp; omega⟩
        · cases hs'
    · cases hs'
  · intro b hb
    simp only [pstep] at hb
    split at hb
    · split at hb
      · cases hb; simp [pEnd]
      · split at hb
        · cases hb
        · cases hb; simp [pEnd]
    · cases hb
      exact ⟨h1, by simp only; omega⟩

/-! ### from the path on -/
def tailC (e : Int) (lf : Leaf) (a b : Item) (r : Rd) : Option (Proof × Int) :=
  ((code_Reader_Below r (257 : Int)).bind fun t76 => ((iter (proof_Read_s1 t76) ((0 : Int), t76.2.s, t76.2.at_, t76.2.err, ([] : List Item))).bind fun b158 => (match b158 with | .inl r₀ => some r₀ | .inr (x151, x152, x153, x154, x155) => ((code_Reader_Done (⟨x152, x153, x154⟩ : Rd)).bind fun t220 => (if (t220.1 != (0 : Int)) = true then some ((⟨0, (⟨zL, zL, 0⟩ : Leaf), (⟨0, zL, zL, 0⟩ : Item), (⟨0, zL, zL, 0⟩ : Item), []⟩ : Proof), t220.1) else some ((⟨e, lf, a, b, x155⟩ : Proof), (0 : Int)))))))
def tailR (e : Int) (lf : Leaf) (a b : Item) (r : Rd) : Option (Proof × Int) :=
  ((r02_ReadNumber r).bind fun t67 => ((if (t67.1.err == (0 : Int)) = true then some (decide ((256 : Int) < t67.2)) else some false).bind fun b74 => (if b74 = true then some ((⟨0, (⟨zL, zL, 0⟩ : Leaf), (⟨0, zL, zL, 0⟩ : Item), (⟨0, zL, zL, 0⟩ : Item), []⟩ : Proof), (2 : Int)) else ((iter (r18_Read_s1 t67) ((0 : Int), t67.1.s, t67.1.at_, t67.1.err, ([] : List Item))).bind fun b140 => (match b140 with | .inl r₀ => some r₀ | .inr (x133, x134, x135, x136, x137) => ((r02_Done (⟨x134, x135, x136⟩ : Rd)).bind fun t182 => (if (t182 != (0 : Int)) = true then some ((⟨0, (⟨zL, zL, 0⟩ : Leaf), (⟨0, zL, zL, 0⟩ : Item), (⟨0, zL, zL, 0⟩ : Item), []⟩ : Proof), t182) else some ((⟨e, lf, a, b, x137⟩ : Proof), (0 : Int)))))))))
theorem tailC_end (e : Int) (lf : Leaf) (a b : Item) (r r' : Rd) (h : r.ok) (hb : belowS r 257 = (0, r')) (he : r'.err ≠ 0) : tailC e lf a b r = some ((⟨0, (⟨zL, zL, 0⟩ : Leaf), (⟨0, zL, zL, 0⟩ : Item), (⟨0, zL, zL, 0⟩ : Item), []⟩ : Proof), r'.err) := by
  unfold tailC
  rw [code_Below_eq r 257 h, some_bind, hb]
  have : iter (proof_Read_s1 (0, r')) ((0 : Int), r'.s, r'.at_, r'.err, ([] : List Item)) = some (.inr (0, r'.s, r'.at_, r'.err, [])) := by
    refine iter_end ?_
    simp only [proof_Read_s1]
    rw [dec_f (by simp), if_neg (by simp)]
  simp only [this, some_bind]
  rw [code_Done_eq, some_bind]
  have hd : doneS (⟨r'.s, r'.at_, r'.err⟩ : Rd) = r'.err := done_bad _ he
  simp only [hd]
  rw [bne_t he, if_pos rfl]
theorem numS_bad {r : Rd} (h : r.err ≠ 0) : numS r = (0, r) := by
  unfold numS
  rw [takeS_bad 1 h]
theorem tails (e : Int) (lf : Leaf) (a b : Item) (r : Rd) (h : r.ok) : ∃ p er, tailC e lf a b r = some (p, er) ∧ tailR e lf a b r = some (p, er) ∧ p.path.length ≤ 256 := by
  have ⟨h1, h2, h3⟩ := numS_ok r h
  by_cases he : (numS r).2.err = 0
  · by_cases hn : 256 < (numS r).1
    · have hb : belowS r 257 = (0, failS (numS r).2 2) := by unfold belowS; rw [if_pos (by omega)]
      have hf : (failS (numS r).2 2).err = 2 := by unfold failS; rw [if_pos he]
      refine ⟨(⟨0, (⟨zL, zL, 0⟩ : Leaf), (⟨0, zL, zL, 0⟩ : Item), (⟨0, zL, zL, 0⟩ : Item), []⟩ : Proof), 2, ?_, ?_, by simp⟩
      · rw [tailC_end e lf a b r _ h hb (by rw [hf]; simp), hf]
      · unfold tailR
        rw [r02_Number_eq' r h, some_bind]
        simp only
        rw [show ((numS r).2.err == 0) = true by simp [he], if_pos rfl, dec_t hn, some_bind, if_pos rfl]
    · have hb : belowS r 257 = numS r := by unfold belowS; rw [if_neg (by omega)]
      obtain ⟨b', q1, q2, q3⟩ := path_loops (numS r) ((numS r).2, (numS r).1) rfl (numS r).1.toNat ((0 : Int), (numS r).2.s, (numS r).2.at_, (numS r).2.err, ([] : List Item))
        ⟨h1, he, by simp, h2, by omega, by simp only; omega, by simp⟩
      unfold tailC tailR
      rw [code_Below_eq r 257 h, some_bind, hb, q1, some_bind, r02_Number_eq' r h, some_bind]
      simp only
      rw [show ((numS r).2.err == 0) = true by simp [he], if_pos rfl, dec_f hn, some_bind, if_neg (by simp), q2, some_bind]
      cases b' with
      | inl p => exact ⟨p.1, p.2, rfl, rfl, q3⟩
      | inr q =>
        obtain ⟨x, s, a1, e1, acc⟩ := q
        obtain ⟨q4, q5⟩ := q3
        simp only
        rw [code_Done_eq, some_bind, r02_Done_eq, some_bind]
        simp only
        by_cases hd : doneS (⟨s, a1, e1⟩ : Rd) ≠ 0
        · rw [bne_t hd]; exact ⟨_, _, rfl, rfl, by simp⟩
        · rw [bne_f hd]; exact ⟨_, _, rfl, rfl, q5⟩
  · have hz := numS_err r h he
    have hb : belowS r 257 = (0, (numS r).2) := by unfold belowS; rw [if_neg (by omega)]; exact Prod.ext hz rfl
    refine ⟨(⟨0, (⟨zL, zL, 0⟩ : Leaf), (⟨0, zL, zL, 0⟩ : Item), (⟨0, zL, zL, 0⟩ : Item), []⟩ : Proof), (numS r).2.err, tailC_end e lf a b r _ h hb he, ?_, by simp⟩
    unfold tailR
    rw [r02_Number_eq' r h, some_bind]
    simp only
    rw [show ((numS r).2.err == 0) = false by simpa using he, if_neg (by simp), some_bind, if_neg (by simp)]
    have : iter (r18_Read_s1 ((numS r).2, (numS r).1)) ((0 : Int), (numS r).2.s, (numS r).2.at_, (numS r).2.err, ([] : List Item)) = some (.inr (0, (numS r).2.s, (numS r).2.at_, (numS r).2.err, [])) := by
      refine iter_end ?_
      simp only [r18_Read_s1]
      rw [dec_f (by rw [hz]; simp), if_neg (by simp), some_bind, if_neg (by simp)]
    rw [this, some_bind]
    simp only
    rw [r02_Done_eq, some_bind]
    have hd : doneS (⟨(numS r).2.s, (numS r).2.at_, (numS r).2.err⟩ : Rd) = (numS r).2.err := done_bad _ he
    rw [hd, bne_t he, if_pos rfl]

theorem nodeS_nil (s : Str) (h : (nodeS s).2 = 0) : (nodeS s).1 ≠ .nil := by
  revert h
  unfold nodeS
  simp only
  split
  · split
    · intro h; exact absurd h (by assumption)
    · split
      · intro h; exact absurd h (by assumption)
      · intro _; simp
  · split
    · intro h; exact absurd h (by assumption)
    · split
      · intro h; exact absurd h (by assumption)
      · intro _; simp

theorem read_s2 : proof_Read_s2 = proof_Read_s1 := rfl
theorem told_s2 : r18_Read_s2 = r18_Read_s1 := rfl
theorem reads (s : Str) (hs : s.length ≤ 100000) : ∃ p e, proof_Read s = some (p, e) ∧ r18_Read s = some (p, e) ∧ p.path.length ≤ 256 := by
  have h0 := openS_ok s hs
  have ⟨h1, h2, h3⟩ := numS_ok _ h0
  unfold proof_Read r18_Read
  rw [code_Open_eq, some_bind, r02_Open_eq, some_bind, code_Below_eq _ 3 h0, some_bind, r02_Number_eq' _ h0, some_bind]
  simp only
  by_cases hbig : (numS (openS s)).2.err = 0 ∧ 2 < (numS (openS s)).1
  · obtain ⟨he, hn⟩ := hbig
    have hb : belowS (openS s) 3 = (0, failS (numS (openS s)).2 2) := by unfold belowS; rw [if_pos (by omega)]
    have hf : (failS (numS (openS s)).2 2).err = 2 := by unfold failS; rw [if_pos he]
    have hbad : (failS (numS (openS s)).2 2).err ≠ 0 := by rw [hf]; simp
    have hb2 : belowS (failS (numS (openS s)).2 2) 257 = (0, failS (numS (openS s)).2 2) := by unfold belowS; rw [numS_bad hbad, if_neg (by simp)]
    rw [hb]
    simp only
    rw [if_neg (by simp), show ((numS (openS s)).2.err == 0) = true by simp [he], if_pos rfl, dec_t hn, some_bind, if_pos rfl]
    refine ⟨(⟨0, (⟨zL, zL, 0⟩ : Leaf), (⟨0, zL, zL, 0⟩ : Item), (⟨0, zL, zL, 0⟩ : Item), []⟩ : Proof), 2, ?_, rfl, by simp⟩
    have := tailC_end 0 ⟨zL, zL, 0⟩ ⟨0, zL, zL, 0⟩ ⟨0, zL, zL, 0⟩ _ _ (failS_ok _ 2 (by simp) h1) hb2 hbad
    rw [hf] at this
    exact this
  · have hn : (numS (openS s)).1 ≤ 2 := by
      by_cases he : (numS (openS s)).2.err = 0
      · exact Classical.byContradiction fun q => hbig ⟨he, by omega⟩
      · rw [numS_err _ h0 he]; omega
    have hb : belowS (openS s) 3 = numS (openS s) := by unfold belowS; rw [if_neg (by omega)]
    rw [hb]
    have hc : (if ((numS (openS s)).2.err == (0 : Int)) = true then some (decide ((2 : Int) < (numS (openS s)).1)) else some false) = some false := by
      rw [dec_f (by omega)]; split <;> rfl
    rw [hc, some_bind, if_neg Bool.false_ne_true]
    by_cases hz : (numS (openS s)).1 = 0
    · rw [if_neg (by simp [hz]), dec_f (by omega), if_neg (by simp)]
      obtain ⟨p, er, q1, q2, q3⟩ := tails (numS (openS s)).1 ⟨zL, zL, 0⟩ ⟨0, zL, zL, 0⟩ ⟨0, zL, zL, 0⟩ _ h1
      rw [read_s2, told_s2]
      exact ⟨p, er, q1, q2, q3⟩
    · have ht := textS_ok _ h1
      have hlen := textS_len _ h1
      rw [bne_t hz, if_pos rfl, dec_t (by omega), if_pos rfl, code_Text_eq _ h1, some_bind, r02_Text_eq' _ h1, some_bind, node_Read_eq _ hlen, some_bind, code_Done_eq, some_bind]
      simp only
      rw [done_test _ ht, some_bind]
      by_cases he : (textS (numS (openS s)).2).2.err = 0
      · rw [dec_f (by simp [he]), if_neg Bool.false_ne_true, show ((textS (numS (openS s)).2).2.err != 0) = false by simp [he], if_neg Bool.false_ne_true, r15_Read_eq _ hlen, some_bind]
        have hnil := nodeS_nil (textS (numS (openS s)).2).1
        generalize hN : nodeS (textS (numS (openS s)).2).1 = N at hnil
        obtain ⟨nd, e⟩ := N
        simp only at hnil
        have hte : (nodeT (nd, e)).2.2.2.2 = e := by cases nd <;> rfl
        simp only [hte]
        by_cases h00 : e = 0
        · subst h00
          rw [if_neg (by simp), if_neg (by simp)]
          have n12 : (numS (openS s)).1 = 1 ∨ (numS (openS s)).1 = 2 := by omega
          cases nd with
          | nil => exact absurd rfl (hnil rfl)
          | leaf x =>
            simp only [node_AsLeaf, node_AsInner, nodeT, some_bind]
            rcases n12 with n1 | n2
            · obtain ⟨p, er, q1, q2, q3⟩ := tails (numS (openS s)).1 x ⟨0, zL, zL, 0⟩ ⟨0, zL, zL, 0⟩ _ ht
              refine ⟨p, er, ?_, ?_, q3⟩
              · rw [n1] at q1 ⊢
                exact q1
              · rw [n1] at q2 ⊢
                exact q2
            · rw [n2]
              exact ⟨(⟨0, (⟨zL, zL, 0⟩ : Leaf), (⟨0, zL, zL, 0⟩ : Item), (⟨0, zL, zL, 0⟩ : Item), []⟩ : Proof), 3, rfl, rfl, by simp⟩
          | inner x =>
            simp only [node_AsLeaf, node_AsInner, nodeT, some_bind]
            rcases n12 with n1 | n2
            · rw [n1]
              exact ⟨(⟨0, (⟨zL, zL, 0⟩ : Leaf), (⟨0, zL, zL, 0⟩ : Item), (⟨0, zL, zL, 0⟩ : Item), []⟩ : Proof), 3, rfl, rfl, by simp⟩
            · obtain ⟨p, er, q1, q2, q3⟩ := tails (numS (openS s)).1 ⟨zL, zL, 0⟩ x.l x.r _ ht
              refine ⟨p, er, ?_, ?_, q3⟩
              · rw [n2] at q1 ⊢
                exact q1
              · rw [n2] at q2 ⊢
                exact q2
        · rw [bne_t h00]
          exact ⟨(⟨0, (⟨zL, zL, 0⟩ : Leaf), (⟨0, zL, zL, 0⟩ : Item), (⟨0, zL, zL, 0⟩ : Item), []⟩ : Proof), e, rfl, rfl, by simp⟩
      · rw [dec_t he, if_pos rfl, bne_t he, if_pos rfl, done_bad _ he]
        exact ⟨(⟨0, (⟨zL, zL, 0⟩ : Leaf), (⟨0, zL, zL, 0⟩ : Item), (⟨0, zL, zL, 0⟩ : Item), []⟩ : Proof), _, rfl, rfl, by simp⟩

/-! ### the same -/
theorem r18_Same_self (p : Proof) (h : p.path.length ≤ 100000) : r18_Same p p = some true := by
  unfold r18_Same
  have := iter_to (step := r18_Same_s1 p p) (fun k => (k : Int)) p.path.length (b := .inr (p.path.length : Int)) (fun k hk => ?_) ?_
  · simp only [bne_self_eq_false, beq_self_eq_true, Bool.and_true, Bool.not_true, Bool.false_eq_true, if_false, some_bind]
    have e : iter (r18_Same_s1 p p) 0 = some (.inr (p.path.length : Int)) := this
    rw [e, some_bind]
  · simp only [r18_Same_s1]
    rw [dec_t (by simp [lenI]; omega), if_pos rfl, req_t (by simp [lenI]; omega), req_t (by simp [lenI]; omega), if_neg (by simp), wrap_id (by omega)]
    rfl
  · simp only [r18_Same_s1]
    rw [dec_f (by simp [lenI]), if_neg (by simp)]
end
end Go.Ch
end
section
/- A proof, written: the program's way, the document's way. -/
set_option linter.unusedVariables false
set_option linter.unusedSimpArgs false
namespace Go.Ch
open Go.RowKit (wrap64)
noncomputable section

def flatW (l : List Item) : Str := (l.map itemW).flatten
theorem flatW_len : ∀ l : List Item, (flatW l).length ≤ 82 * l.length
  | [] => by simp [flatW]
  | x :: l => by
    have := itemW_len x
    have := flatW_len l
    simp only [flatW, List.map_cons, List.flatten_cons, List.length_append, List.length_cons] at *
    omega
theorem code_path (p : Proof) (h : p.path.length ≤ 256) : ∀ (post pre : List Item) (acc : Str), p.path = pre ++ post → acc.length ≤ 1000 + 82 * pre.length →
    iter (proof_Bytes_s1 p) ((pre.length : Int), (⟨acc, 0⟩ : Wr)) = some (if post.all itGood = true then .inr ((p.path.length : Int), ⟨acc ++ flatW post, 0⟩) else .inl ([], 1))
  | [], pre, acc, e, _ => by
    simp at e
    refine iter_end ?_
    simp only [proof_Bytes_s1]
    rw [dec_f (by simp [lenI, e]), if_neg (by simp), e]
    simp [flatW]
  | x :: post, pre, acc, e, ha => by
    have hlen := congrArg List.length e
    simp at hlen
    have hx : getI p.path (pre.length : Int) = x := by rw [e, getI_mid]
    have hst : proof_Bytes_s1 p ((pre.length : Int), (⟨acc, 0⟩ : Wr)) = if itGood x = true then some (.inl (((pre.length + 1 : Nat) : Int), ⟨acc ++ itemW x, 0⟩)) else some (.inr (.inl ([], 1))) := by
      simp only [proof_Bytes_s1]
      rw [dec_t (by simp [lenI]; omega), if_pos rfl, req_t (by simp [lenI]; omega), hx, node_Good_eq, some_bind]
      cases hg : itGood x with
      | false => rw [if_pos (by simp), if_neg (by simp)]
      | true =>
        rw [if_neg (by simp), if_pos rfl, proof_write_eq _ _ _ hg (by omega), some_bind, wrap_id (by omega)]
        rfl
    cases hg : itGood x with
    | false =>
      rw [hg, if_neg (by simp)] at hst
      rw [iter_end hst]
      simp [hg]
    | true =>
      rw [hg, if_pos rfl] at hst
      have hw := itemW_len x
      have ih := code_path p h post (pre ++ [x]) (acc ++ itemW x) (by simp [e]) (by simp; omega)
      refine iter_next hst ?_
      rw [show ((pre.length + 1 : Nat) : Int) = ((pre ++ [x]).length : Int) by simp, ih]
      simp [hg, flatW]
theorem told_path (p : Proof) (h : p.path.length ≤ 256) : ∀ (post pre : List Item) (acc : Str), p.path = pre ++ post → acc.length ≤ 1000 + 82 * pre.length →
    iter (r18_Bytes_s1 p) ((pre.length : Int), acc) = some (if post.all itGood = true then .inr ((p.path.length : Int), acc ++ flatW post) else .inl ([], 1))
  | [], pre, acc, e, _ => by
    simp at e
    refine iter_end ?_
    simp only [r18_Bytes_s1]
    rw [dec_f (by simp [lenI, e]), if_neg (by simp), e]
    simp [flatW]
  | x :: post, pre, acc, e, ha => by
    have hlen := congrArg List.length e
    simp at hlen
    have hw := itemW_len x
    have hx : getI p.path (pre.length : Int) = x := by rw [e, getI_mid]
    have hst : r18_Bytes_s1 p ((pre.length : Int), acc) = if itGood x = true then some (.inl (((pre.length + 1 : Nat) : Int), acc ++ itemW x)) else some (.inr (.inl ([], 1))) := by
      simp only [r18_Bytes_s1]
      rw [dec_t (by simp [lenI]; omega), if_pos rfl, req_t (by simp [lenI]; omega), hx, r15_Good_eq, some_bind]
      cases hg : itGood x with
      | false => rw [if_pos (by simp), if_neg (by simp)]
      | true =>
        rw [if_neg (by simp), if_pos rfl, r15_Write_eq _ hg, some_bind, req_t (by simp [LIM]; omega), wrap_id (by omega)]
        rfl
    cases hg : itGood x with
    | false =>
      rw [hg, if_neg (by simp)] at hst
      rw [iter_end hst]
      simp [hg]
    | true =>
      rw [hg, if_pos rfl] at hst
      have ih := told_path p h post (pre ++ [x]) (acc ++ itemW x) (by simp [e]) (by simp; omega)
      refine iter_next hst ?_
      rw [show ((pre.length + 1 : Nat) : Int) = ((pre ++ [x]).length : Int) by simp, ih]
      simp [hg, flatW]
/-- Head and path. -/
def pathB (b : Str) (l : List Item) : Str × Int := if 256 < l.length then ([], 2) else if l.all itGood = true then (b ++ numT l.length ++ flatW l, 0) else ([], 1)
theorem code_head (p : Proof) (b : Str) (hb : b.length ≤ 900) (hp : p.path.length ≤ 1000) :
    (if (decide ((256 : Int) < (lenI p.path))) = true then some (([] : Str), (2 : Int)) else ((code_Writer_Number ⟨b, 0⟩ (lenI p.path)).bind fun t29 => ((iter (proof_Bytes_s1 p) ((0 : Int), t29)).bind fun b41 => (match b41 with | .inl r₀ => some r₀ | .inr (x38, x39) => ((code_Writer_Done x39).bind fun t72 => some (t72.1, t72.2.1)))))) = some (pathB b p.path) := by
  unfold pathB
  by_cases h : 256 < p.path.length
  · rw [dec_t (by simp [lenI]; omega), if_pos rfl, if_pos h]
  · have := numT_len p.path.length
    have hf := flatW_len p.path
    have hq : iter (proof_Bytes_s1 p) ((0 : Int), (⟨b ++ numT p.path.length, 0⟩ : Wr)) = some (if p.path.all itGood = true then .inr ((p.path.length : Int), ⟨b ++ numT p.path.length ++ flatW p.path, 0⟩) else .inl ([], 1)) := code_path p (by omega) p.path [] (b ++ numT p.path.length) rfl (by simp; omega)
    rw [dec_f (by simp [lenI]; omega), if_neg (by simp), if_neg h, lenI, code_wNumber b 0 _ (by omega) (by omega), some_bind]
    rw [hq, some_bind]
    by_cases hg : p.path.all itGood = true
    · rw [if_pos hg, if_pos hg]
      simp only
      rw [code_wDone _ (by simp; omega), some_bind]
    · rw [if_neg hg, if_neg hg]
theorem told_head (p : Proof) (b : Str) (hb : b.length ≤ 900) (hp : p.path.length ≤ 1000) :
    (if (decide ((256 : Int) < (lenI p.path))) = true then some (([] : Str), (2 : Int)) else ((r02_Number (lenI p.path)).bind fun t21 => ((req (List.length b + List.length t21 ≤ LIM)).bind fun _ => ((iter (r18_Bytes_s1 p) ((0 : Int), (b ++ t21))).bind fun b34 => (match b34 with | .inl r₀ => some r₀ | .inr (x31, x32) => some (x32, (0 : Int))))))) = some (pathB b p.path) := by
  unfold pathB
  by_cases h : 256 < p.path.length
  · rw [dec_t (by simp [lenI]; omega), if_pos rfl, if_pos h]
  · have := numT_len p.path.length
    have hq : iter (r18_Bytes_s1 p) ((0 : Int), b ++ numT p.path.length) = some (if p.path.all itGood = true then .inr ((p.path.length : Int), b ++ numT p.path.length ++ flatW p.path) else .inl ([], 1)) := told_path p (by omega) p.path [] (b ++ numT p.path.length) rfl (by simp; omega)
    rw [dec_f (by simp [lenI]; omega), if_neg (by simp), if_neg h, lenI, r02_Number_w _ (by omega), some_bind, req_t (by simp [LIM]; omega)]
    rw [hq, some_bind]
    by_cases hg : p.path.all itGood = true
    · rw [if_pos hg, if_pos hg]
    · rw [if_neg hg, if_neg hg]
theorem writes_same (p : Proof) (hp : p.path.length ≤ 1000) (he63 : p.end_ < 9223372036854775808) : ∃ t e, proof_Bytes p = some (t, e) ∧ r18_Bytes p = some (t, e) := by
  unfold proof_Bytes r18_Bytes
  by_cases hneg : p.end_ < 0
  · rw [code_wNeg [] _ hneg, some_bind, show max (0 : Int) p.end_ = ((0 : Nat) : Int) by simp; omega, r02_Number_w 0 (by omega), some_bind]
    rw [show (p.end_ == 0) = false by simp; omega, show (p.end_ == 1) = false by simp; omega, show (p.end_ == 2) = false by simp; omega]
    exact ⟨[], 1, rfl, rfl⟩
  · by_cases h2 : 2 < p.end_
    · obtain ⟨n, hn⟩ : ∃ n : Nat, p.end_ = n := ⟨p.end_.toNat, by omega⟩
      rw [show max (0 : Int) p.end_ = ((n : Nat) : Int) by omega, r02_Number_w n (by omega), some_bind]
      rw [show (p.end_ == 0) = false by simp; omega, show (p.end_ == 1) = false by simp; omega, show (p.end_ == 2) = false by simp; omega]
      rw [hn, code_wNumber [] 0 n (by omega) (by simp), some_bind]
      exact ⟨[], 1, rfl, rfl⟩
    · obtain ⟨n, hn⟩ : ∃ n : Nat, p.end_ = n := ⟨p.end_.toNat, by omega⟩
      have hnl := numT_len n
      rw [show max (0 : Int) p.end_ = ((n : Nat) : Int) by omega, r02_Number_w n (by omega), some_bind, hn, code_wNumber [] 0 n (by omega) (by simp), some_bind]
      have hc : n = 0 ∨ n = 1 ∨ n = 2 := by omega
      rcases hc with rfl | rfl | rfl
      · exact ⟨_, _, code_head p (numT 0) (by omega) hp, told_head p (numT 0) (by omega) hp⟩
      · have c1 := node_Bytes_leaf p.leaf
        have e1 : ((if (decide (p.leaf.at_ < (0 : Int))) = true then some true else some (decide ((1073741824 : Int) < p.leaf.at_))) : Option Bool) = some (decide (leafErr p.leaf ≠ 0)) := by
          unfold leafErr
          by_cases q1 : p.leaf.at_ < 0 <;> by_cases q2 : 1073741824 < p.leaf.at_ <;> simp [q1, q2]
        by_cases hl : leafErr p.leaf = 0
        · rw [if_neg (by simp [hl])] at c1
          have l1 := leafW_len p.leaf
          have l2 := numT_len (leafW p.leaf).length
          refine ⟨(pathB (numT 1 ++ numT (leafW p.leaf).length ++ leafW p.leaf) p.path).1, (pathB (numT 1 ++ numT (leafW p.leaf).length ++ leafW p.leaf) p.path).2, ?_, ?_⟩
          · show (node_Bytes (Nd.leaf p.leaf)).bind _ = some (pathB (numT 1 ++ numT (leafW p.leaf).length ++ leafW p.leaf) p.path)
            rw [c1, some_bind]
            simp only
            rw [if_neg (by simp), List.nil_append, code_wText _ _ _ (by omega) (by omega), some_bind]
            exact code_head p _ (by simp; omega) hp
          · show ((if (decide (p.leaf.at_ < (0 : Int))) = true then some true else some (decide ((1073741824 : Int) < p.leaf.at_))) : Option Bool).bind _ = some (pathB (numT 1 ++ numT (leafW p.leaf).length ++ leafW p.leaf) p.path)
            rw [e1, some_bind, dec_f (by simp [hl]), if_neg (by simp), r15_LeafText_eq _ hl, some_bind, r02_Text_w _ (by omega), some_bind, req_t (by simp [LIM]; omega)]
            rw [List.append_assoc]
            exact told_head p _ (by simp; omega) hp
        · rw [if_pos hl] at c1
          have e3 : leafErr p.leaf = 1 := by
            unfold leafErr at hl ⊢
            split
            · rfl
            · rename_i q; rw [if_neg q] at hl; exact absurd rfl hl
          refine ⟨[], 1, ?_, ?_⟩
          · show (node_Bytes (Nd.leaf p.leaf)).bind _ = _
            rw [c1, some_bind]
            simp only [e3]
            rfl
          · show ((if (decide (p.leaf.at_ < (0 : Int))) = true then some true else some (decide ((1073741824 : Int) < p.leaf.at_))) : Option Bool).bind _ = _
            rw [e1, some_bind, dec_t hl, if_pos rfl]
      · have c1 := node_Bytes_inner ⟨p.a, p.b⟩
        simp only at c1
        by_cases hl : pairErr p.a p.b = 0
        · rw [if_neg (by simp [hl])] at c1
          obtain ⟨g1, g2⟩ := pairErr_good hl
          have w1 := itemW_len p.a
          have w2 := itemW_len p.b
          have l2 := numT_len ([1] ++ itemW p.a ++ itemW p.b).length
          refine ⟨(pathB (numT 2 ++ numT ([1] ++ itemW p.a ++ itemW p.b).length ++ ([1] ++ itemW p.a ++ itemW p.b)) p.path).1, (pathB (numT 2 ++ numT ([1] ++ itemW p.a ++ itemW p.b).length ++ ([1] ++ itemW p.a ++ itemW p.b)) p.path).2, ?_, ?_⟩
          · show (node_Bytes (Nd.inner (⟨p.a, p.b⟩ : Inner))).bind _ = some (pathB (numT 2 ++ numT ([1] ++ itemW p.a ++ itemW p.b).length ++ ([1] ++ itemW p.a ++ itemW p.b)) p.path)
            rw [c1, some_bind]
            simp only
            rw [if_neg (by simp), List.nil_append, code_wText _ _ _ (by omega) (by simp; omega), some_bind]
            exact code_head p _ (by simp at l2 ⊢; omega) hp
          · show (r15_Check p.a p.b).bind _ = some (pathB (numT 2 ++ numT ([1] ++ itemW p.a ++ itemW p.b).length ++ ([1] ++ itemW p.a ++ itemW p.b)) p.path)
            rw [r15_Check_eq, some_bind, show (pairErr p.a p.b != 0) = false by simp [hl], if_neg (by simp), show r02_Flag true = some [1] from rfl, some_bind, r15_Write_eq _ g1, some_bind, req_t (by simp [LIM]; omega), r15_Write_eq _ g2, some_bind, req_t (by simp [LIM]; omega), r02_Text_w _ (by simp; omega), some_bind, req_t (by simp [LIM] at l2 ⊢; omega)]
            rw [List.append_assoc (numT 2)]
            exact told_head p _ (by simp at l2 ⊢; omega) hp
        · rw [if_pos hl] at c1
          refine ⟨[], pairErr p.a p.b, ?_, ?_⟩
          · show (node_Bytes (Nd.inner (⟨p.a, p.b⟩ : Inner))).bind _ = _
            rw [c1, some_bind]
            simp only
            rw [bne_t hl, if_pos rfl]
          · show (r15_Check p.a p.b).bind _ = _
            rw [r15_Check_eq, some_bind, bne_t hl, if_pos rfl]
end
end Go.Ch
end
section
/- Plain laws: rising lists, where they part. -/
set_option linter.unusedVariables false
set_option linter.unusedSimpArgs false
namespace Go.Ch

section
variable {α β : Type} (key : α → Lab)
/-- Strictly rising. -/
def Rise (l : List α) : Prop := l.Pairwise fun a b => lt (key a) (key b) = true
def keyAt (o : Option α) : Lab := match o with | some x => key x | none => zL
/-- How far the first and the last one go together. -/
def fork (l : List α) : Nat := com (keyAt key l.head?) (keyAt key l.getLast?)
def lo (l : List α) (n : Nat) : List α := l.takeWhile fun x => !bt (key x) n
def hi (l : List α) (n : Nat) : List α := l.dropWhile fun x => !bt (key x) n
theorem lo_hi (l : List α) (n : Nat) : lo key l n ++ hi key l n = l := List.takeWhile_append_dropWhile
theorem lo_map (f : β → α) (l : List β) (n : Nat) : (lo (fun b => key (f b)) l n).map f = lo key (l.map f) n := by
  unfold lo; rw [List.takeWhile_map]; rfl
theorem hi_map (f : β → α) (l : List β) (n : Nat) : (hi (fun b => key (f b)) l n).map f = hi key (l.map f) n := by
  unfold hi; rw [List.dropWhile_map]; rfl
theorem fork_map (f : β → α) (l : List β) : fork (fun b => key (f b)) l = fork key (l.map f) := by
  unfold fork; rw [List.head?_map, List.getLast?_map]; cases l.head? <;> cases l.getLast? <;> rfl
theorem rise_map (f : β → α) (l : List β) : Rise (fun b => key (f b)) l ↔ Rise key (l.map f) := by
  unfold Rise; rw [List.pairwise_map]
theorem Rise.up {l : List α} (h : Rise key l) : Up key l := h.imp fun h => lt_asymm h
variable {key}
theorem Rise.app {a b : List α} (h : Rise key (a ++ b)) : Rise key a ∧ Rise key b ∧ ∀ x ∈ a, ∀ y ∈ b, lt (key x) (key y) = true := List.pairwise_append.1 h
theorem Rise.sub {l m : List α} (h : Rise key l) (s : m.Sublist l) : Rise key m := h.sublist s

/-- Between two labels the common beginning is common to all. -/
theorem com_between {a x b : Lab} (h1 : lt a x = true ∨ a = x) (h2 : lt x b = true ∨ x = b) : com a b ≤ com a x := by
  rcases h1 with h1 | rfl
  · rcases h2 with h2 | rfl
    · obtain ⟨p1, p2, p3⟩ := lt_iff.1 h1
      obtain ⟨q1, q2, q3⟩ := lt_iff.1 h2
      rcases Nat.lt_trichotomy (com a x) (com x b) with c | c | c
      · rw [com_min c]; exact Nat.le_refl _
      · rw [← c, p3] at q2; cases q2
      · have := com_min (a := b) (b := x) (c := a) (by rw [com_comm b x, com_comm x a]; exact c)
        rw [com_comm a b, this, com_comm b x]; omega
    · exact Nat.le_refl _
  · rw [com_self]; exact com_le _ _
theorem bt_mono {a b : Lab} {n : Nat} (h : lt a b = true) (hn : n ≤ com a b) (ha : bt a n = true) : bt b n = true := by
  obtain ⟨h1, h2, h3⟩ := lt_iff.1 h
  rcases Nat.lt_or_ge n (com a b) with c | c
  · rw [← com_bt c]; exact ha
  · have : n = com a b := by omega
    rw [this]; exact h3

theorem rise_ends {x : α} {l : List α} (h : Rise key (x :: l)) {y : α} (hy : (x :: l).getLast? = some y) : (∀ z ∈ x :: l, (lt (key x) (key z) = true ∨ x = z) ∧ (lt (key z) (key y) = true ∨ z = y)) := by
  intro z hz
  constructor
  · rcases List.mem_cons.1 hz with rfl | hz
    · exact .inr rfl
    · exact .inl ((List.pairwise_cons.1 h).1 z hz)
  · rcases List.eq_nil_or_concat (x :: l) with e | ⟨m, w, e⟩
    · cases e
    · rw [List.concat_eq_append] at e
      rw [e] at h hz hy
      rw [List.getLast?_concat] at hy
      cases hy
      rcases List.mem_append.1 hz with hz | hz
      · exact .inl (h.app.2.2 z hz y (by simp))
      · exact .inr (by simpa using hz)

/-- What is known of where a rising list of two or more parts. -/
structure Parts (key : α → Lab) (l : List α) : Prop where
  lt : fork key l < 256
  same : ∀ x ∈ l, ∀ y ∈ l, ∀ k, k < fork key l → bt (key x) k = bt (key y) k
  lo0 : ∀ x ∈ lo key l (fork key l), bt (key x) (fork key l) = false
  hi1 : ∀ x ∈ hi key l (fork key l), bt (key x) (fork key l) = true
  lon : lo key l (fork key l) ≠ []
  hin : hi key l (fork key l) ≠ []
  lof : lo key l (fork key l) = l.filter fun x => !bt (key x) (fork key l)
  hif : hi key l (fork key l) = l.filter fun x => bt (key x) (fork key l)
theorem takeWhile_all {p : α → Bool} {l : List α} {x : α} (h : x ∈ l.takeWhile p) : p x = true := by
  induction l with
  | nil => simp at h
  | cons y l ih =>
    rw [List.takeWhile_cons] at h
    split at h
    · rcases List.mem_cons.1 h with rfl | h
      · assumption
      · exact ih h
    · simp at h
theorem Rise.parts {l : List α} (h : Rise key l) (h2 : 2 ≤ l.length) : Parts key l := by
  match l, h, h2 with
  | x :: z :: l, h, _ =>
  obtain ⟨y, hy⟩ : ∃ y, (x :: z :: l).getLast? = some y := ⟨_, List.getLast?_eq_some_getLast (by simp)⟩
  have he := rise_ends h hy
  have hf : fork key (x :: z :: l) = com (key x) (key y) := by unfold fork; rw [hy]; rfl
  have hxy : Ch.lt (key x) (key y) = true := by
    rcases (he x (by simp)).2 with q | q
    · exact q
    · subst q
      have hm : x ∈ z :: l := by
        rw [List.getLast?_cons_cons] at hy
        exact List.mem_of_getLast? hy
      exact (List.pairwise_cons.1 h).1 x hm
  obtain ⟨p1, p2, p3⟩ := lt_iff.1 hxy
  have hcom : ∀ w ∈ x :: z :: l, com (key x) (key y) ≤ com (key x) (key w) := fun w hw => by
    obtain ⟨q1, q2⟩ := he w hw
    exact com_between (q1.imp id (congrArg key)) (q2.imp id (congrArg key))
  have hsame : ∀ w ∈ x :: z :: l, ∀ k, k < com (key x) (key y) → bt (key w) k = bt (key x) k := fun w hw k hk => (com_bt (Nat.lt_of_lt_of_le hk (hcom w hw))).symm
  have hmono : (x :: z :: l).Pairwise fun a b => bt (key a) (com (key x) (key y)) = true → bt (key b) (com (key x) (key y)) = true := by
    refine List.Pairwise.imp_of_mem (fun {a b} ha hb q hq => bt_mono q (le_com (com_le _ _) fun k hk => ?_) hq) h
    rw [hsame a ha k hk, hsame b hb k hk]
  have key1 : ∀ m : List α, m.Pairwise (fun a b => bt (key a) (com (key x) (key y)) = true → bt (key b) (com (key x) (key y)) = true) →
      lo key m (com (key x) (key y)) = m.filter (fun a => !bt (key a) (com (key x) (key y))) ∧ hi key m (com (key x) (key y)) = m.filter (fun a => bt (key a) (com (key x) (key y))) := by
    intro m
    induction m with
    | nil => intro _; exact ⟨rfl, rfl⟩
    | cons a m ih =>
      intro hm
      obtain ⟨m1, m2⟩ := List.pairwise_cons.1 hm
      obtain ⟨i1, i2⟩ := ih m2
      unfold lo hi at *
      cases ha : bt (key a) (com (key x) (key y)) with
      | false => simp [List.takeWhile_cons, List.dropWhile_cons, ha, i1, i2]
      | true =>
        have hall : ∀ b ∈ m, bt (key b) (com (key x) (key y)) = true := fun b hb => m1 b hb ha
        constructor
        · simp only [List.takeWhile_cons, ha, Bool.not_true, Bool.false_eq_true, if_false, List.filter_cons]
          exact (List.filter_eq_nil_iff.2 fun b hb => by simp [hall b hb]).symm
        · simp only [List.dropWhile_cons, ha, Bool.not_true, Bool.false_eq_true, if_false, List.filter_cons, if_true]
          rw [List.filter_eq_self.2 hall]
  obtain ⟨f1, f2⟩ := key1 _ hmono
  have hyl : y ∈ x :: z :: l := List.mem_of_getLast? hy
  refine ⟨by rw [hf]; exact p1, fun a ha b hb k hk => ?_, fun a ha => ?_, fun a ha => ?_, ?_, ?_, by rw [hf]; exact f1, by rw [hf]; exact f2⟩
  · rw [hf] at hk; rw [hsame a ha k hk, hsame b hb k hk]
  · have := takeWhile_all ha; simpa using this
  · rw [hf] at ha ⊢
    rw [f2] at ha
    exact (List.mem_filter.1 ha).2
  · rw [hf]
    unfold lo
    rw [List.takeWhile_cons, p2]; simp
  · rw [hf, f2]
    intro e
    have : y ∈ (x :: z :: l).filter (fun a => bt (key a) (com (key x) (key y))) := List.mem_filter.2 ⟨hyl, p3⟩
    rw [e] at this; simp at this
theorem Parts.less {l : List α} (h : Parts key l) : (lo key l (fork key l)).length < l.length ∧ (hi key l (fork key l)).length < l.length := by
  have := congrArg List.length (lo_hi key l (fork key l))
  rw [List.length_append] at this
  have h1 := List.length_pos_iff.2 h.lon
  have h2 := List.length_pos_iff.2 h.hin
  omega
theorem Rise.halves {l : List α} (h : Rise key l) (n : Nat) : Rise key (lo key l n) ∧ Rise key (hi key l n) :=
  ⟨h.sub (List.takeWhile_sublist _), h.sub (List.dropWhile_sublist _)⟩
end
end Go.Ch
end
section
/- Trees: what the program makes, what the document says. -/
set_option linter.unusedVariables false
set_option linter.unusedSimpArgs false
namespace Go.Ch
open Go.RowKit (wrap64)
noncomputable section

/-- The item of the tree of items that rise. -/
def tree (l : List Item) : Item :=
  if h : (lo Item.bits l (fork Item.bits l)).length < l.length ∧ (hi Item.bits l (fork Item.bits l)).length < l.length ∧ 2 ≤ l.length then
    innerItem (tree (lo Item.bits l (fork Item.bits l))) (tree (hi Item.bits l (fork Item.bits l)))
  else l.head?.getD default
termination_by l.length
decreasing_by
  · exact h.1
  · exact h.2.1
theorem tree_one (x : Item) : tree [x] = x := by rw [tree, dif_neg (by simp)]; rfl
theorem tree_two {l : List Item} (h : Rise Item.bits l) (h2 : 2 ≤ l.length) : tree l = innerItem (tree (lo Item.bits l (fork Item.bits l))) (tree (hi Item.bits l (fork Item.bits l))) := by
  have p := (h.parts h2).less
  rw [tree, dif_pos ⟨p.1, p.2, h2⟩]
theorem one_of {α : Type} {l : List α} (h : l ≠ []) (h2 : ¬ 2 ≤ l.length) : ∃ x, l = [x] := by
  match l, h, h2 with
  | [x], _, _ => exact ⟨x, rfl⟩
  | _ :: _ :: _, _, h2 => simp at h2
theorem first_of {α : Type} {l : List α} (h : l ≠ []) : ∃ x r, l = x :: r := by
  match l, h with
  | x :: r, _ => exact ⟨x, r, rfl⟩
/-- The tree's item bears the common beginning of all. -/
theorem tree_bits : ∀ (m : Nat) (l : List Item), l.length ≤ m → Rise Item.bits l → l ≠ [] → ∀ x ∈ l, (2 ≤ l.length → (tree l).len = (fork Item.bits l : Int) ∧ (tree l).bits = cut x.bits (fork Item.bits l)) ∧ (∀ k, (2 ≤ l.length → k < fork Item.bits l) → bt (tree l).bits k = bt x.bits k) := by
  intro m
  induction m with
  | zero => intro l hl _ hn; exact absurd (List.length_eq_zero_iff.1 (by omega)) hn
  | succ m ih =>
    intro l hl h hn x hx
    by_cases h2 : 2 ≤ l.length
    · have p := h.parts h2
      have q := p.less
      have hh := h.halves (fork Item.bits l)
      obtain ⟨a, ra, ea⟩ := first_of p.lon
      obtain ⟨b, rb, eb⟩ := first_of p.hin
      have hla : a ∈ lo Item.bits l (fork Item.bits l) := by rw [ea]; simp
      have hlb : b ∈ hi Item.bits l (fork Item.bits l) := by rw [eb]; simp
      have hal : a ∈ l := (List.takeWhile_sublist _).subset hla
      have hbl : b ∈ l := (List.dropWhile_sublist _).subset hlb
      have ta := (ih _ (by omega) hh.1 p.lon a hla).2
      have tb := (ih _ (by omega) hh.2 p.hin b hlb).2
      have fa : 2 ≤ (lo Item.bits l (fork Item.bits l)).length → fork Item.bits l < fork Item.bits (lo Item.bits l (fork Item.bits l)) := fun h3 => by
        have pa := hh.1.parts h3
        obtain ⟨c, rc, ec⟩ := first_of pa.lon
        obtain ⟨d, rd, ed⟩ := first_of pa.hin
        have hc : c ∈ lo Item.bits (lo Item.bits l (fork Item.bits l)) (fork Item.bits (lo Item.bits l (fork Item.bits l))) := by rw [ec]; simp
        have hd : d ∈ hi Item.bits (lo Item.bits l (fork Item.bits l)) (fork Item.bits (lo Item.bits l (fork Item.bits l))) := by rw [ed]; simp
        have hc2 := (List.takeWhile_sublist _).subset hc
        have hd2 := (List.dropWhile_sublist _).subset hd
        rcases Nat.lt_trichotomy (fork Item.bits l) (fork Item.bits (lo Item.bits l (fork Item.bits l))) with w | w | w
        · exact w
        · have := pa.hi1 d hd
          rw [← w, p.lo0 d hd2] at this; cases this
        · have := p.same c ((List.takeWhile_sublist _).subset hc2) d ((List.takeWhile_sublist _).subset hd2) _ w
          rw [pa.lo0 c hc, pa.hi1 d hd] at this; cases this
      have fb : 2 ≤ (hi Item.bits l (fork Item.bits l)).length → fork Item.bits l < fork Item.bits (hi Item.bits l (fork Item.bits l)) := fun h3 => by
        have pa := hh.2.parts h3
        obtain ⟨c, rc, ec⟩ := first_of pa.lon
        obtain ⟨d, rd, ed⟩ := first_of pa.hin
        have hc : c ∈ lo Item.bits (hi Item.bits l (fork Item.bits l)) (fork Item.bits (hi Item.bits l (fork Item.bits l))) := by rw [ec]; simp
        have hd : d ∈ hi Item.bits (hi Item.bits l (fork Item.bits l)) (fork Item.bits (hi Item.bits l (fork Item.bits l))) := by rw [ed]; simp
        have hc2 := (List.takeWhile_sublist _).subset hc
        have hd2 := (List.dropWhile_sublist _).subset hd
        rcases Nat.lt_trichotomy (fork Item.bits l) (fork Item.bits (hi Item.bits l (fork Item.bits l))) with w | w | w
        · exact w
        · have := pa.lo0 c hc
          rw [← w, p.hi1 c hc2] at this; cases this
        · have := p.same c ((List.dropWhile_sublist _).subset hc2) d ((List.dropWhile_sublist _).subset hd2) _ w
          rw [pa.lo0 c hc, pa.hi1 d hd] at this; cases this
      have hcom : com (tree (lo Item.bits l (fork Item.bits l))).bits (tree (hi Item.bits l (fork Item.bits l))).bits = fork Item.bits l := by
        refine com_eq (by have := p.lt; omega) (fun k hk => ?_) (fun _ => ?_)
        · rw [ta k fun h3 => by have := fa h3; omega, tb k fun h3 => by have := fb h3; omega]
          exact p.same a hal b hbl k hk
        · rw [ta _ fa, tb _ fb, p.lo0 a hla, p.hi1 b hlb]; simp
      have hcut : cut (tree (lo Item.bits l (fork Item.bits l))).bits (fork Item.bits l) = cut x.bits (fork Item.bits l) := by
        refine lab_ext fun k hk => ?_
        rw [bt_cut, bt_cut]
        by_cases c : k < fork Item.bits l
        · rw [ta k fun h3 => by have := fa h3; omega, p.same a hal x hx k c]
        · simp [c]
      rw [tree_two h h2]
      refine ⟨fun _ => ⟨?_, ?_⟩, fun k hk => ?_⟩
      · show ((com _ _ : Nat) : Int) = _
        rw [hcom]
      · show cut _ (com _ _) = _
        rw [hcom, hcut]
      · show bt (cut _ (com _ _)) k = _
        rw [hcom, hcut, bt_cut]; simp [hk h2]
    · obtain ⟨y, rfl⟩ := one_of hn h2
      have : x = y := by simpa using hx
      subst this
      rw [tree_one]
      exact ⟨fun q => absurd q h2, fun _ _ => rfl⟩
theorem tree_len {l : List Item} (h : Rise Item.bits l) (h2 : 2 ≤ l.length) : (tree l).len = (fork Item.bits l : Int) := by
  have hn : l ≠ [] := by intro e; rw [e] at h2; simp at h2
  obtain ⟨x, r, e⟩ := first_of hn
  exact ((tree_bits l.length l (Nat.le_refl _) h hn x (by rw [e]; simp)).1 h2).1
theorem tree_good {l : List Item} (h : Rise Item.bits l) (h2 : 2 ≤ l.length) : goodB (tree l).len (tree l).bits = true := by
  have hn : l ≠ [] := by intro e; rw [e] at h2; simp at h2
  obtain ⟨x, r, e⟩ := first_of hn
  obtain ⟨e1, e2⟩ := (tree_bits l.length l (Nat.le_refl _) h hn x (by rw [e]; simp)).1 h2
  rw [e1, e2]
  exact good_cut _ _ (by have := (h.parts h2).lt; omega)

/-! ### where lists part -/
section
variable {α : Type} [Inhabited α]
def gIdx1 (a0 : (List α)) (a1 : (α → Option Bool)) : (Int) → Option ((Int) ⊕ (Int ⊕ (Int)))
 | x6 => (if (decide (x6 < (lenI a0))) = true then ((req ((0 : Int) ≤ x6 ∧ x6 < lenI a0)).bind fun _ => ((a1 (getI a0 x6)).bind fun t21 => (if t21 = true then some (.inr (.inl x6)) else some (.inl (wrap64 (x6 + (1 : Int))))))) else some (.inr (.inr x6)))
def gIdx (a0 : (List α)) (a1 : (α → Option Bool)) : Option Int :=
 ((iter (gIdx1 a0 a1) (0 : Int)).bind fun b8 => (match b8 with | .inl r₀ => some r₀ | .inr x6 => some (-1 : Int)))
/-- The place of the first such one, or -1. -/
theorem gIdx_eq (l : List α) (f : α → Option Bool) (p : α → Bool) (hf : ∀ x ∈ l, f x = some (p x)) (hl : l.length ≤ 1000000000000) :
    gIdx l f = some (if (l.takeWhile fun x => !p x).length < l.length then ((l.takeWhile fun x => !p x).length : Int) else -1) := by
  unfold gIdx
  have := iter_list (step := gIdx1 l f) (fun k (_ : Unit) => (k : Int)) l (fun pre _ => True)
      (fun pre r _ => if (r.takeWhile fun x => !p x).length < r.length then (.inl ((pre.length + (r.takeWhile fun x => !p x).length : Nat) : Int) : Int ⊕ Int) else .inr (l.length : Int)) (fun s hI => ?_) (fun pre x r s e hI => ?_) l [] () rfl trivial
  · rw [show ((0 : Int)) = ((([] : List α).length : Nat) : Int) from rfl, this, some_bind]
    by_cases h : (l.takeWhile fun x => !p x).length < l.length
    · simp [h]
    · simp [h]
  · simp only [gIdx1]
    rw [dec_f (by simp [lenI]), if_neg (by simp)]
    simp
  · have h1 : (pre.length : Int) < lenI l := by simp [e, lenI]; omega
    have h2 : pre.length < l.length := by simp [e]
    have hx : getI l (pre.length : Int) = x := by rw [e, getI_mid]
    simp only [gIdx1, dec_t h1, if_true, hx]
    rw [req_t (by omega), hf x (by rw [e]; simp), some_bind]
    cases hp : p x with
    | true => right; simp [List.takeWhile_cons, hp]
    | false =>
      left
      refine ⟨(), trivial, ?_, ?_⟩
      · rw [wrap_id (by omega)]; rfl
      · simp only [List.takeWhile_cons, hp, Bool.not_false, if_true, List.length_cons, List.length_append, List.length_nil]
        by_cases c : (r.takeWhile fun x => !p x).length < r.length
        · rw [if_pos (by omega), if_pos c]; congr 2; omega
        · rw [if_neg (by omega), if_neg c]
end
theorem idxLeaf : @slices_IndexFunc_Leaf = gIdx := rfl
theorem idxItem : @slices_IndexFunc_Item = gIdx := rfl
theorem take_lo {α : Type} (p : α → Bool) (l : List α) : l.take (l.takeWhile p).length = l.takeWhile p ∧ l.drop (l.takeWhile p).length = l.dropWhile p := by
  have h : l.takeWhile p ++ l.dropWhile p = l := List.takeWhile_append_dropWhile
  constructor
  · conv => lhs; arg 2; rw [← h]
    exact List.take_left
  · conv => lhs; arg 2; rw [← h]
    exact List.drop_left
theorem proof_sides_eq (l : List Leaf) (n : Nat) (hl : l.length ≤ 1000000000000) : proof_sides l (n : Int) = some (lo Leaf.label l n, hi Leaf.label l n) := by
  unfold proof_sides
  rw [idxLeaf, gIdx_eq l _ (fun x => bt x.label n) (fun x _ => by unfold proof_sides_1; rw [bits_Bit_eq, some_bind, bitI_nat, b01_one]) hl, some_bind]
  obtain ⟨t1, t2⟩ := take_lo (fun x : Leaf => !bt x.label n) l
  have hsum : (l.takeWhile fun x : Leaf => !bt x.label n).length ≤ l.length := (List.takeWhile_sublist _).length_le
  by_cases h : (l.takeWhile fun x : Leaf => !bt x.label n).length < l.length
  · rw [if_pos h, dec_f (by omega), if_neg (by simp), req_t (by simp [lenI]; omega), req_t (by simp [lenI]; omega), cutL_to, cutL_from, t1, t2]
    rfl
  · rw [if_neg h, dec_t (by omega), if_pos rfl, req_t (by simp [lenI]), req_t (by simp [lenI])]
    have e : (l.takeWhile fun x : Leaf => !bt x.label n).length = l.length := by omega
    rw [e] at t1 t2
    unfold lo hi
    rw [← t1, ← t2]
    rw [show lenI l = (l.length : Int) from rfl, cutL_to]
    have : cutL l (l.length : Int) (l.length : Int) = l.drop l.length := cutL_from l l.length
    rw [this]
end
end Go.Ch
end
section
/- Trees, joined: the program's way, the document's way. -/
set_option linter.unusedVariables false
set_option linter.unusedSimpArgs false
namespace Go.Ch
open Go.RowKit (wrap64)
noncomputable section

theorem keyAt_first {α : Type} [Inhabited α] (key : α → Lab) {l : List α} (h : l ≠ []) : key (getI l 0) = keyAt key l.head? := by
  obtain ⟨x, r, rfl⟩ := first_of h
  rfl
theorem keyAt_last {α : Type} [Inhabited α] (key : α → Lab) {l : List α} (h : l ≠ []) : key (getI l (lenI l - 1)) = keyAt key l.getLast? := by
  rcases List.eq_nil_or_concat l with e | ⟨m, w, e⟩
  · exact absurd e h
  · rw [List.concat_eq_append] at e
    subst e
    rw [List.getLast?_concat]
    have := last_mid m w []
    simp only [List.append_nil] at this
    rw [lenI, this]; rfl
theorem lenI_pos {α : Type} {l : List α} (h : l ≠ []) : 0 < lenI l := by
  have := List.length_pos_iff.2 h; simp [lenI]; omega

theorem patch_join_eq : ∀ (k : Nat) (l : List Item), l ≠ [] → l.length ≤ k → l.length ≤ 1000000 → Rise Item.bits l → patch_join k l = some (tree l)
  | 0, l, hn, hk, _, _ => absurd (List.length_eq_zero_iff.1 (by omega)) hn
  | k + 1, l, hn, hk, hs, h => by
    rw [patch_join]
    have hp := lenI_pos hn
    by_cases h2 : 2 ≤ l.length
    · have p := h.parts h2
      have q := p.less
      have hh := h.halves (fork Item.bits l)
      have h1 : (lenI l == 1) = false := by simp [lenI]; omega
      have e1 : com (getI l 0).bits (getI l (lenI l - 1)).bits = fork Item.bits l := by
        unfold fork; rw [← keyAt_first Item.bits hn, ← keyAt_last Item.bits hn]
      simp only [h1, Bool.false_eq_true, if_false]
      rw [req_t (by omega), wrap_id (by rw [lenI]; omega), req_t (by omega), bits_Common_eq, some_bind, e1]
      rw [idxItem, gIdx_eq l _ (fun x => bt x.bits (fork Item.bits l)) (fun x _ => by unfold patch_join_1; rw [bits_Bit_eq, some_bind, bitI_nat, b01_one]) (by omega), some_bind]
      have hlt : (l.takeWhile fun x : Item => !bt x.bits (fork Item.bits l)).length < l.length := q.1
      obtain ⟨t1, t2⟩ : l.take (l.takeWhile fun x : Item => !bt x.bits (fork Item.bits l)).length = lo Item.bits l (fork Item.bits l) ∧ l.drop (l.takeWhile fun x : Item => !bt x.bits (fork Item.bits l)).length = hi Item.bits l (fork Item.bits l) := take_lo _ _
      rw [if_pos hlt, req_t (by rw [lenI]; omega), cutL_to, t1]
      rw [patch_join_eq k _ p.lon (by omega) (by omega) hh.1, some_bind]
      rw [req_t (by rw [lenI]; omega), cutL_from, t2]
      rw [patch_join_eq k _ p.hin (by omega) (by omega) hh.2, some_bind]
      rw [node_Inner_Item_eq, some_bind, tree_two h h2]
    · obtain ⟨x, rfl⟩ := one_of hn h2
      have h1 : (lenI [x] == 1) = true := rfl
      simp only [h1, if_true]
      rw [req_t (by simp [lenI]), tree_one]
      rfl
/-! ### over leaves -/
def lit (l : List Leaf) : List Item := l.map leafItem
theorem lit_rise {l : List Leaf} : Rise Leaf.label l ↔ Rise Item.bits (lit l) := rise_map Item.bits leafItem l
theorem lit_fork (l : List Leaf) : fork Leaf.label l = fork Item.bits (lit l) := fork_map Item.bits leafItem l
theorem lit_lo (l : List Leaf) (n : Nat) : lit (lo Leaf.label l n) = lo Item.bits (lit l) n := lo_map Item.bits leafItem l n
theorem lit_hi (l : List Leaf) (n : Nat) : lit (hi Leaf.label l n) = hi Item.bits (lit l) n := hi_map Item.bits leafItem l n
theorem lit_len (l : List Leaf) : (lit l).length = l.length := List.length_map _
theorem lit_nil {l : List Leaf} : lit l = [] ↔ l = [] := List.map_eq_nil_iff
/-- The halves of a rising list of leaves. -/
def loL (l : List Leaf) : List Leaf := lo Leaf.label l (fork Leaf.label l)
def hiL (l : List Leaf) : List Leaf := hi Leaf.label l (fork Leaf.label l)
theorem tree_leaves {l : List Leaf} (h : Rise Leaf.label l) (h2 : 2 ≤ l.length) : tree (lit l) = innerItem (tree (lit (loL l))) (tree (lit (hiL l))) := by
  rw [tree_two (lit_rise.1 h) (by rw [lit_len]; exact h2)]
  unfold loL hiL
  rw [lit_lo, lit_hi, lit_fork]
theorem halvesL {l : List Leaf} (h : Rise Leaf.label l) (h2 : 2 ≤ l.length) : loL l ≠ [] ∧ hiL l ≠ [] ∧ (loL l).length < l.length ∧ (hiL l).length < l.length ∧ Rise Leaf.label (loL l) ∧ Rise Leaf.label (hiL l) :=
  have p := h.parts h2
  have hh := h.halves (fork Leaf.label l)
  ⟨p.lon, p.hin, p.less.1, p.less.2, hh.1, hh.2⟩

theorem proof_pair_eq (rec : List Leaf → Option Item) (l : List Leaf) (h2 : 2 ≤ l.length) (hs : l.length ≤ 1000000) (h : Rise Leaf.label l)
    (hr : ∀ m : List Leaf, m ≠ [] → m.length < l.length → Rise Leaf.label m → rec m = some (tree (lit m))) : proof_pair rec l = some ⟨tree (lit (loL l)), tree (lit (hiL l))⟩ := by
  have hn : l ≠ [] := by intro e; rw [e] at h2; simp at h2
  have hp := lenI_pos hn
  obtain ⟨q1, q2, q3, q4, q5, q6⟩ := halvesL h h2
  have e1 : com (getI l 0).label (getI l (lenI l - 1)).label = fork Leaf.label l := by
    unfold fork; rw [← keyAt_first Leaf.label hn, ← keyAt_last Leaf.label hn]
  unfold proof_pair
  rw [req_t (by omega), wrap_id (by rw [lenI]; omega), req_t (by omega), bits_Common_eq, some_bind, e1, proof_sides_eq _ _ (by omega), some_bind]
  dsimp only
  rw [show lo Leaf.label l (fork Leaf.label l) = loL l from rfl, show hi Leaf.label l (fork Leaf.label l) = hiL l from rfl]
  rw [hr _ q1 q3 q5, some_bind, hr _ q2 q4 q6, some_bind]
theorem proof_item_eq : ∀ (k : Nat) (l : List Leaf), l ≠ [] → l.length ≤ k → l.length ≤ 1000000 → Rise Leaf.label l → proof_item k l = some (tree (lit l))
  | 0, l, hn, hk, _, _ => absurd (List.length_eq_zero_iff.1 (by omega)) hn
  | k + 1, l, hn, hk, hs, h => by
    rw [proof_item]
    have hp := lenI_pos hn
    by_cases h2 : 2 ≤ l.length
    · have h1 : (lenI l == 1) = false := by simp [lenI]; omega
      simp only [h1, Bool.false_eq_true, if_false]
      rw [proof_pair_eq _ l h2 hs h (fun m m1 m2 m3 => proof_item_eq k m m1 (by omega) (by omega) m3), some_bind, node_Inner_Item_eq, some_bind, tree_leaves h h2]
    · obtain ⟨x, rfl⟩ := one_of hn h2
      have h1 : (lenI [x] == 1) = true := rfl
      simp only [h1, if_true]
      rw [req_t (by simp [lenI]), node_Leaf_Item_eq, some_bind]
      rw [show lit [x] = [leafItem x] from rfl, tree_one]
      rfl
theorem proof_pair_at (k : Nat) (l : List Leaf) (h2 : 2 ≤ l.length) (hk : l.length ≤ k) (hs : l.length ≤ 1000000) (h : Rise Leaf.label l) : proof_pair (proof_item k) l = some ⟨tree (lit (loL l)), tree (lit (hiL l))⟩ :=
  proof_pair_eq _ l h2 hs h fun m m1 m2 m3 => proof_item_eq k m m1 (by omega) (by omega) m3

/-! ### the document's way -/
/-! ### in form: rising -/
theorem chk_rise : ∀ (l : List Item) (p : Option Item), chk p l = 0 → (∀ a, p = some a → itGood a = true) → Rise Item.bits (p.toList ++ l) ∧ ∀ x ∈ l, itGood x = true
  | [], p, _, _ => by cases p <;> simp [Rise]
  | x :: r, p, h, hp => by
    unfold chk at h
    split at h
    · cases h
    · rename_i hg
      have hg : itGood x = true := by simpa using hg
      split at h
      · cases h
      · rename_i hb
        obtain ⟨h1, h2⟩ := chk_rise r (some x) h (fun a e => by cases e; exact hg)
        refine ⟨?_, fun y hy => ?_⟩
        · cases p with
          | none => exact h1
          | some a =>
            have hl : lt a.bits x.bits = true := by
              have hb : bad a x = false := by simpa using hb
              unfold bad at hb
              simp only [Bool.or_eq_false_iff] at hb
              simpa using hb.2.2
            refine List.pairwise_cons.2 ⟨fun y hy => ?_, h1⟩
            have h1' : Rise Item.bits (x :: r) := h1
            rcases List.mem_cons.1 hy with rfl | hy
            · exact hl
            · exact lt_trans hl ((List.pairwise_cons.1 h1').1 y hy)
        · rcases List.mem_cons.1 hy with rfl | hy
          · exact hg
          · exact h2 y hy
theorem check_rise {l : List Item} (h : checkS l = 0) : Rise Item.bits l ∧ (∀ x ∈ l, itGood x = true) ∧ l.length ≤ 2000 := by
  unfold checkS at h
  split at h
  · cases h
  · obtain ⟨h1, h2⟩ := chk_rise l none h (fun a e => by cases e)
    exact ⟨h1, h2, by omega⟩
def topS (l : List Item) : Lab := if l = [] then emptyS else (tree l).sum
theorem patch_Top_eq (k : Nat) (l : List Item) (hk : l.length ≤ k) (hl : l.length ≤ 1000000) : patch_Top k l = some (if checkS l = 0 then (topS l, 0) else (zL, checkS l)) := by
  unfold patch_Top topS
  rw [patch_Check_eq _ (by omega), some_bind]
  by_cases h : checkS l = 0
  · have hr := check_rise h
    rw [h]
    simp only [bne_self_eq_false, Bool.false_eq_true, if_false, if_true]
    by_cases hn : l = []
    · subst hn
      rw [if_pos rfl, node_Empty_eq, some_bind]
      rfl
    · have h0 : (lenI l == 0) = false := by have := lenI_pos hn; simp; omega
      rw [h0, if_neg (by simp), patch_join_eq k l hn hk hl hr.1, some_bind, if_neg hn]
  · have h0 : (checkS l != 0) = true := by simpa using h
    rw [h0, if_pos rfl, if_neg h]
end
end Go.Ch
end
section
/- The way towards a label: made by the program, by the document. -/
set_option linter.unusedVariables false
set_option linter.unusedSimpArgs false
namespace Go.Ch
open Go.RowKit (wrap64)
noncomputable section

/-! ### a list turned round -/
section
variable {α : Type} [Inhabited α]
def gRev1  : (Int × Int × (List α)) → Option ((Int × Int × (List α)) ⊕ (Int × Int × (List α)))
 | (x4, x5, x6) => (if (decide (x5 < x4)) = true then ((req ((0 : Int) ≤ x4 ∧ x4 < lenI x6)).bind fun _ => ((req ((0 : Int) ≤ x5 ∧ x5 < lenI x6)).bind fun _ => ((req ((0 : Int) ≤ x5 ∧ x5 < lenI x6)).bind fun _ => ((req ((0 : Int) ≤ x4 ∧ x4 < lenI (x6.set (Int.toNat x5) (getI x6 x4)))).bind fun _ => some (.inl ((wrap64 (x4 - (1 : Int))), (wrap64 (x5 + (1 : Int))), ((x6.set (Int.toNat x5) (getI x6 x4)).set (Int.toNat x4) (getI x6 x5)))))))) else some (.inr (x4, x5, x6)))
theorem gRev_eq : ∀ (n : Nat) (P M Q : List α), M.length ≤ n → P.length + M.length + Q.length ≤ 1000000000 → ∃ i j, iter gRev1 (((P.length + M.length : Nat) : Int) - 1, (P.length : Int), P ++ (M ++ Q)) = some (i, j, P ++ (M.reverse ++ Q)) := by
  intro n
  induction n with
  | zero =>
    intro P M Q hM _
    have : M = [] := List.length_eq_zero_iff.1 (by omega)
    subst this
    refine ⟨((P.length + ([] : List α).length : Nat) : Int) - 1, (P.length : Int), iter_end ?_⟩
    simp only [gRev1]
    rw [dec_f (by simp; omega), if_neg (by simp)]
    rfl
  | succ n ih =>
    intro P M Q hM hs
    by_cases h2 : 2 ≤ M.length
    · obtain ⟨x, r, rfl⟩ := first_of (l := M) (by intro e; rw [e] at h2; simp at h2)
      rcases List.eq_nil_or_concat r with rfl | ⟨m, y, rfl⟩
      · simp at h2
      · rw [List.concat_eq_append] at *
        simp only [List.length_cons, List.length_append, List.length_nil] at hM hs h2
        obtain ⟨i, j, hij⟩ := ih (P ++ [y]) m (x :: Q) (by omega) (by simp; omega)
        refine ⟨i, j, iter_next (s' := ((((P ++ [y]).length + m.length : Nat) : Int) - 1, ((P ++ [y]).length : Int), (P ++ [y]) ++ (m ++ (x :: Q)))) ?_ ?_⟩
        · have e0 : P ++ (x :: (m ++ [y]) ++ Q) = P ++ x :: (m ++ ([y] ++ Q)) := by simp
          have e1 : P ++ (x :: (m ++ [y]) ++ Q) = (P ++ x :: m) ++ y :: Q := by simp
          have gx : getI (P ++ (x :: (m ++ [y]) ++ Q)) (P.length : Int) = x := by rw [e0, getI_mid]
          have hj : ((P.length + (x :: (m ++ [y])).length : Nat) : Int) - 1 = ((P ++ x :: m).length : Int) := by simp; omega
          have gy : getI (P ++ (x :: (m ++ [y]) ++ Q)) ((P ++ x :: m).length : Int) = y := by rw [e1, getI_mid]
          have hl : lenI (P ++ (x :: (m ++ [y]) ++ Q)) = ((P.length + m.length + 2 + Q.length : Nat) : Int) := by simp [lenI]; omega
          have hjl : ((P ++ x :: m).length : Int) = ((P.length + m.length + 1 : Nat) : Int) := by simp; omega
          rw [hj]
          simp only [gRev1]
          rw [dec_t (by rw [hjl]; omega), if_pos rfl, req_t (by rw [hl, hjl]; omega), req_t (by rw [hl]; omega), req_t (by rw [hl]; omega), req_t (by simp only [lenI, List.length_set] at hl ⊢; rw [hl, hjl]; omega)]
          rw [gx, gy, wrap_id (by rw [hjl]; omega), wrap_id (by omega)]
          have s1 : (P ++ (x :: (m ++ [y]) ++ Q)).set (Int.toNat (P.length : Int)) y = (P ++ y :: m) ++ y :: Q := by
            rw [Int.toNat_natCast, e0, List.set_append_right _ _ (Nat.le_refl _), Nat.sub_self, List.set_cons_zero]; simp
          rw [s1, Int.toNat_natCast]
          have s2 : ((P ++ y :: m) ++ y :: Q).set (P ++ x :: m).length x = (P ++ [y]) ++ (m ++ (x :: Q)) := by
            rw [List.set_append_right _ _ (by simp), show (P ++ x :: m).length - (P ++ y :: m).length = 0 by simp, List.set_cons_zero]; simp
          rw [s2]
          congr 3
          · simp; omega
          · congr 1; simp
        · rw [hij]; simp
    · have hr : M.reverse = M := by
        rcases M with _ | ⟨x, _ | ⟨y, r⟩⟩
        · rfl
        · rfl
        · simp at h2
      refine ⟨((P.length + M.length : Nat) : Int) - 1, (P.length : Int), iter_end ?_⟩
      simp only [gRev1]
      rw [dec_f (by omega), if_neg (by simp), hr]
end
theorem revItem : slices_Reverse_Item_s1 = gRev1 := rfl
theorem reverse_eq (l : List Item) (hl : l.length ≤ 1000000) : slices_Reverse_Item l = some l.reverse := by
  obtain ⟨i, j, h⟩ := gRev_eq l.length [] l [] (Nat.le_refl _) (by simp; omega)
  simp only [List.nil_append, List.append_nil, List.length_nil, Nat.zero_add] at h
  unfold slices_Reverse_Item
  rw [revItem, wrap_id (by rw [lenI]; omega)]
  rw [show lenI l = (l.length : Int) from rfl, show ((0 : Int)) = ((0 : Nat) : Int) from rfl, h, some_bind]

/-! ### the way -/
def zLf : Leaf := ⟨zL, zL, 0⟩
def zIt : Item := ⟨0, zL, zL, 0⟩
def zPf : Proof := ⟨0, zLf, zIt, zIt, []⟩
def Proof.adds (w : Proof) (p : List Item) : Proof := ⟨w.end_, w.leaf, w.a, w.b, w.path ++ p⟩
def hasI (x : Item) (lab : Lab) : Bool := hasB x.len x.bits lab
/-- The way in the tree of leaves that rise. -/
def way (l : List Leaf) (lab : Lab) : Proof :=
  if h : (loL l).length < l.length ∧ (hiL l).length < l.length ∧ 2 ≤ l.length then
    if hasI (tree (lit l)) lab = false then ⟨2, zLf, tree (lit (loL l)), tree (lit (hiL l)), []⟩
    else if bt lab (fork Leaf.label l) = true then (way (hiL l) lab).adds [tree (lit (loL l))]
    else (way (loL l) lab).adds [tree (lit (hiL l))]
  else (l.head?.elim zPf fun x => ⟨1, x, zIt, zIt, []⟩)
termination_by l.length
decreasing_by
  · exact h.2.1
  · exact h.1
theorem way_two {l : List Leaf} (h : Rise Leaf.label l) (h2 : 2 ≤ l.length) (lab : Lab) : way l lab =
    if hasI (tree (lit l)) lab = false then ⟨2, zLf, tree (lit (loL l)), tree (lit (hiL l)), []⟩
    else if bt lab (fork Leaf.label l) = true then (way (hiL l) lab).adds [tree (lit (loL l))] else (way (loL l) lab).adds [tree (lit (hiL l))] := by
  obtain ⟨_, _, q3, q4, _, _⟩ := halvesL h h2
  rw [way, dif_pos ⟨q3, q4, h2⟩]
theorem way_one (x : Leaf) (lab : Lab) : way [x] lab = ⟨1, x, zIt, zIt, []⟩ := by rw [way, dif_neg (by simp)]; rfl
theorem way_nil (lab : Lab) : way [] lab = zPf := by rw [way, dif_neg (by simp)]; rfl
theorem tree_lenL {l : List Leaf} (h : Rise Leaf.label l) (h2 : 2 ≤ l.length) : (tree (lit l)).len = (fork Leaf.label l : Int) := by
  rw [tree_len (lit_rise.1 h) (by rw [lit_len]; exact h2), lit_fork]
theorem small_of {l : List Leaf} (h2 : ¬ 2 ≤ l.length) : l = [] ∨ ∃ x, l = [x] := by
  by_cases h : l = []
  · exact .inl h
  · exact .inr (one_of h h2)

def makeEnd (b : (Proof × Int ⊕ ((List Leaf) × (List Item)))) : Option (Proof × Int) :=
  (match b with | .inl r₀ => some r₀ | .inr (x75, x78) => ((slices_Reverse_Item x78).bind fun t163 => (if ((lenI x75) == (0 : Int)) = true then some ((⟨(0 : Int), (⟨zL, zL, 0⟩ : Leaf), (⟨0, zL, zL, 0⟩ : Item), (⟨0, zL, zL, 0⟩ : Item), t163⟩ : Proof), (0 : Int)) else ((req ((0 : Int) ≤ (0 : Int) ∧ (0 : Int) < lenI x75)).bind fun _ => some ((⟨(1 : Int), (getI x75 (0 : Int)), (⟨0, zL, zL, 0⟩ : Item), (⟨0, zL, zL, 0⟩ : Item), t163⟩ : Proof), (0 : Int))))))
theorem proof_Make_loop (k : Nat) (lab : Lab) : ∀ (n : Nat) (l : List Leaf) (p : List Item), l.length ≤ n → l.length ≤ k → l.length + p.length ≤ 100000 → Rise Leaf.label l →
    ∃ b, iter (proof_Make_s1 k lab) (l, p) = some b ∧ makeEnd b = some ((way l lab).adds p.reverse, 0) := by
  intro n
  induction n with
  | zero =>
    intro l p hl hk hs h
    have : l = [] := List.length_eq_zero_iff.1 (by omega)
    subst this
    refine ⟨.inr ([], p), iter_end ?_, ?_⟩
    · simp only [proof_Make_s1]; rw [dec_f (by simp [lenI]), if_neg (by simp)]
    · unfold makeEnd
      simp only
      rw [reverse_eq _ (by simp at hs; omega), some_bind, way_nil]
      rfl
  | succ n ih =>
    intro l p hl hk hs h
    by_cases h2 : 2 ≤ l.length
    · obtain ⟨q1, q2, q3, q4, q5, q6⟩ := halvesL h h2
      have hstep : proof_Make_s1 k lab (l, p) = (if (!hasI (tree (lit l)) lab) = true then some (.inr (.inl ((⟨2, zLf, tree (lit (loL l)), tree (lit (hiL l)), p.reverse⟩ : Proof), 0)))
          else if bt lab (fork Leaf.label l) = true then some (.inl (hiL l, p ++ [tree (lit (loL l))])) else some (.inl (loL l, p ++ [tree (lit (hiL l))]))) := by
        simp only [proof_Make_s1]
        rw [dec_t (by rw [lenI]; omega), if_pos rfl, proof_pair_at k l h2 hk (by omega) h, some_bind, node_Inner_Item_eq, some_bind, bits_Has_eq, some_bind]
        simp only
        rw [← tree_leaves h h2, tree_lenL h h2, ← tree_lenL h h2]
        rw [show hasB (tree (lit l)).len (tree (lit l)).bits lab = hasI (tree (lit l)) lab from rfl, tree_lenL h h2]
        cases hasI (tree (lit l)) lab with
        | false => simp only [Bool.not_false, if_true]; rw [reverse_eq _ (by omega), some_bind]; rfl
        | true =>
          simp only [Bool.not_true, Bool.false_eq_true, if_false]
          rw [proof_sides_eq _ _ (by omega), some_bind, bits_Bit_eq, some_bind, bitI_nat, b01_one]
          cases bt lab (fork Leaf.label l) with
          | true =>
            simp only [if_true]
            rw [show lo Leaf.label l (fork Leaf.label l) = loL l from rfl, show hi Leaf.label l (fork Leaf.label l) = hiL l from rfl]
            rw [proof_item_eq k _ q1 (by omega) (by omega) q5, some_bind, req_t (by simp [LIM]; omega)]
          | false =>
            simp only [Bool.false_eq_true, if_false]
            rw [show lo Leaf.label l (fork Leaf.label l) = loL l from rfl, show hi Leaf.label l (fork Leaf.label l) = hiL l from rfl]
            rw [proof_item_eq k _ q2 (by omega) (by omega) q6, some_bind, req_t (by simp [LIM]; omega)]
      rw [way_two h h2]
      cases hh : hasI (tree (lit l)) lab with
      | false =>
        rw [hh] at hstep
        refine ⟨_, iter_end hstep, ?_⟩
        rfl
      | true =>
        rw [hh] at hstep
        simp only [Bool.not_true, Bool.false_eq_true, if_false] at hstep
        cases hb : bt lab (fork Leaf.label l) with
        | true =>
          rw [hb] at hstep
          obtain ⟨b, h3, h4⟩ := ih (hiL l) (p ++ [tree (lit (loL l))]) (by omega) (by omega) (by simp; omega) q6
          refine ⟨b, iter_next hstep h3, ?_⟩
          rw [h4]
          simp [Proof.adds]
        | false =>
          rw [hb] at hstep
          obtain ⟨b, h3, h4⟩ := ih (loL l) (p ++ [tree (lit (hiL l))]) (by omega) (by omega) (by simp; omega) q5
          refine ⟨b, iter_next hstep h3, ?_⟩
          rw [h4]
          simp [Proof.adds]
    · refine ⟨.inr (l, p), iter_end ?_, ?_⟩
      · simp only [proof_Make_s1]; rw [dec_f (by rw [lenI]; omega), if_neg (by simp)]
      · unfold makeEnd
        simp only
        rw [reverse_eq _ (by omega), some_bind]
        rcases small_of h2 with rfl | ⟨x, rfl⟩
        · rw [way_nil]; rfl
        · rw [way_one, show (lenI [x] == 0) = false from rfl, if_neg (by simp), req_t (by simp [lenI])]; rfl
theorem proof_Make_eq (k : Nat) (l : List Leaf) (lab : Lab) (hl : l.length ≤ 20) (hk : l.length ≤ k) : proof_Make k l lab = some (if checkS (ofS l) = 0 then (way (sortLf l) lab, 0) else (zPf, checkS (ofS l))) := by
  have hsl : (sortLf l).length = l.length := sort_length _ _
  unfold proof_Make
  rw [proof_sorted_eq k l hl, some_bind, patch_Of_eq k _ (by omega), some_bind, ofS_sorted, patch_Check_eq _ (by rw [ofS_length]; omega), some_bind]
  by_cases h : checkS (ofS l) = 0
  · have hr := (check_rise h).1
    rw [ofS_sort] at hr
    obtain ⟨b, h1, h2⟩ := proof_Make_loop k lab _ (sortLf l) [] (Nat.le_refl _) (by omega) (by simp; omega) (lit_rise.2 hr)
    rw [h]
    simp only [bne_self_eq_false, Bool.false_eq_true, if_false, if_true]
    rw [h1, some_bind]
    show makeEnd b = _
    rw [h2]
    simp [Proof.adds]
  · have h0 : (checkS (ofS l) != 0) = true := by simpa using h
    rw [h0, if_pos rfl, if_neg h]
    rfl

/-! ### the document's -/
/-! ### the document's sorting -/
theorem sorted_of_check {l : List Leaf} (h : checkS (ofS l) = 0) : Rise Leaf.label (sortLf l) := by
  have := (check_rise h).1
  rw [ofS_sort] at this
  exact lit_rise.2 this
end
end Go.Ch
end
section
/- The nodes of a way, and what a proof says. -/
set_option linter.unusedVariables false
set_option linter.unusedSimpArgs false
namespace Go.Ch
open Go.RowKit (wrap64)
noncomputable section

def ndItem : Nd → Item
  | .leaf x => leafItem x
  | .inner x => innerItem x.l x.r
  | .nil => default
/-- The node over an item and the one beside it. -/
def upN (x y : Item) : Inner := if lt y.bits x.bits = true then ⟨y, x⟩ else ⟨x, y⟩
def inI (n : Inner) : Item := innerItem n.l n.r
def upBad (x : Item) (n : Inner) (lab : Lab) : Bool := !hasI (inI n) lab || (bt lab (com n.l.bits n.r.bits) != bt x.bits (com n.l.bits n.r.bits))
def upE (x y : Item) (lab : Lab) : Int := if pairErr (upN x y).l (upN x y).r ≠ 0 then pairErr (upN x y).l (upN x y).r else if upBad x (upN x y) lab = true then 11 else 0
theorem proof_up_eq (x y : Item) (lab : Lab) : proof_up x y lab = some (upN x y, upE x y lab) := by
  have body : ∀ n : Inner, ((node_Check (Nd.inner n)).bind fun t23 => (if (t23 != (0 : Int)) = true then some (n, t23) else ((node_Inner_Item n).bind fun t32 => (((bits_Prefix_Has (⟨t32.len, t32.bits⟩ : Pfx) lab).bind fun t43 => (if (!t43) = true then some true else ((bits_Bit lab t32.len).bind fun t53 => ((bits_Bit x.bits t32.len).bind fun t58 => some (t53 != t58))))).bind fun b42 => (if b42 = true then some (n, (11 : Int)) else some (n, (0 : Int))))))) =
      some (n, if pairErr n.l n.r ≠ 0 then pairErr n.l n.r else if upBad x n lab = true then 11 else 0) := fun n => by
    rw [node_Check_inner, some_bind]
    by_cases h : pairErr n.l n.r = 0
    · have h0 : (pairErr n.l n.r != 0) = false := by simp [h]
      rw [h0, if_neg (by simp), node_Inner_Item_eq, some_bind, bits_Has_eq, some_bind]
      simp only
      rw [show hasB (innerItem n.l n.r).len (innerItem n.l n.r).bits lab = hasI (inI n) lab from rfl, show (innerItem n.l n.r).len = ((com n.l.bits n.r.bits : Nat) : Int) from rfl, bits_Bit_eq, bits_Bit_eq, bitI_nat, bitI_nat]
      rw [show (if pairErr n.l n.r ≠ 0 then pairErr n.l n.r else if upBad x n lab = true then (11 : Int) else 0) = if upBad x n lab = true then 11 else 0 from if_neg (by simp [h])]
      unfold upBad
      cases hasI (inI n) lab with
      | false => simp [some_bind]
      | true =>
        simp only [Bool.not_true, Bool.false_eq_true, if_false, some_bind, Bool.false_or]
        rw [b01_ne]
        cases (bt lab (com n.l.bits n.r.bits) != bt x.bits (com n.l.bits n.r.bits)) <;> rfl
    · have h0 : (pairErr n.l n.r != 0) = true := by simpa using h
      rw [h0, if_pos rfl, if_pos h]
  unfold proof_up upE upN
  rw [bits_Order_eq, some_bind]
  cases hl : lt y.bits x.bits with
  | true =>
    rw [dec_t ((ord_pos _ _).2 hl), if_pos rfl, body]
    rfl
  | false =>
    have : ¬ 0 < ord x.bits y.bits := fun q => by rw [(ord_pos _ _).1 q] at hl; cases hl
    rw [dec_f this, if_neg (by simp), body]
    rfl

/-- Up the way: an error's number, or the nodes and the last one's item. -/
def ups (lab : Lab) : List Nd → Item → List Item → Int ⊕ (List Nd × Item)
  | acc, x, [] => .inr (acc, x)
  | acc, x, y :: r => if upE x y lab ≠ 0 then .inl (upE x y lab) else ups lab (acc ++ [.inner (upN x y)]) (inI (upN x y)) r
def upsN (s : Int ⊕ (List Nd × Item)) : List Nd × Int := match s with | .inl e => ([], e) | .inr (a, _) => (a, 0)
/-- The nodes of a proof's way. -/
def nodesS (p : Proof) (lab : Lab) : List Nd × Int :=
  if 256 < p.path.length then ([], 2)
  else if p.end_ = 0 then (if 0 < p.path.length then ([], 3) else ([], 0))
  else if p.end_ = 1 then (if leafErr p.leaf ≠ 0 then ([], leafErr p.leaf) else upsN (ups lab [.leaf p.leaf] (leafItem p.leaf) p.path))
  else if p.end_ = 2 then (if pairErr p.a p.b ≠ 0 then ([], pairErr p.a p.b) else if hasI (innerItem p.a p.b) lab = true then ([], 11) else upsN (ups lab [.inner ⟨p.a, p.b⟩] (innerItem p.a p.b) p.path))
  else ([], 1)
theorem nodes_s12 : proof_Proof_Nodes_s2 = proof_Proof_Nodes_s1 := rfl
theorem nodes_loop (p : Proof) (lab : Lab) (hp : p.path.length ≤ 1000) (n : Nd) (x : Item) :
    ∃ b, iter (proof_Proof_Nodes_s1 p lab) (0, [n], x.len, x.bits, x.sum, x.at_) = some b ∧ (match b with | .inl r₀ => some r₀ | .inr (x61, x62, x64, x65, x66, x67) => some (x62, (0 : Int))) = some (upsN (ups lab [n] x p.path)) := by
  have := iter_list (step := proof_Proof_Nodes_s1 p lab) (fun k (s : List Nd × Item) => ((k : Int), s.1, s.2.len, s.2.bits, s.2.sum, s.2.at_)) p.path (fun pre s => s.1.length ≤ pre.length + 1)
    (fun pre r s => match ups lab s.1 s.2 r with | .inl e => (.inl ([], e) : (List Nd × Int) ⊕ (Int × (List Nd) × Int × Lab × Lab × Int)) | .inr (a, y) => .inr ((p.path.length : Int), a, y.len, y.bits, y.sum, y.at_)) (fun s hI => ?_) (fun pre y r s e hI => ?_) p.path [] ([n], x) rfl (by simp)
  · refine ⟨_, this, ?_⟩
    simp only
    cases ups lab [n] x p.path with
    | inl e => rfl
    | inr a => rfl
  · simp only [proof_Proof_Nodes_s1]
    rw [dec_f (by simp [lenI]), if_neg (by simp)]
    rfl
  · have h1 : (pre.length : Int) < lenI p.path := by simp [e, lenI]; omega
    have h2 : pre.length < p.path.length := by simp [e]
    have hy : getI p.path (pre.length : Int) = y := by rw [e, getI_mid]
    simp only [proof_Proof_Nodes_s1, dec_t h1, if_true, hy]
    rw [req_t (by omega), proof_up_eq, some_bind]
    simp only
    by_cases hz : upE s.2 y lab = 0
    · left
      refine ⟨(s.1 ++ [Nd.inner (upN s.2 y)], inI (upN s.2 y)), by simp; omega, ?_, ?_⟩
      · have h0 : (upE s.2 y lab != 0) = false := by simp [hz]
        rw [show (⟨s.2.len, s.2.bits, s.2.sum, s.2.at_⟩ : Item) = s.2 from rfl, h0, if_neg (by simp), req_t (by simp [LIM]; omega), node_Inner_Item_eq, some_bind, wrap_id (by omega)]
        rfl
      · rw [show ups lab s.1 s.2 (y :: r) = ups lab (s.1 ++ [Nd.inner (upN s.2 y)]) (inI (upN s.2 y)) r by rw [ups, if_neg (by simp [hz])]]
    · right
      have h0 : (upE s.2 y lab != 0) = true := by simpa using hz
      rw [show (⟨s.2.len, s.2.bits, s.2.sum, s.2.at_⟩ : Item) = s.2 from rfl, h0, if_pos rfl]
      rw [show ups lab s.1 s.2 (y :: r) = .inl (upE s.2 y lab) by rw [ups, if_pos hz]]
theorem proof_Nodes_eq (p : Proof) (lab : Lab) (hp : p.path.length ≤ 1000) : proof_Proof_Nodes p lab = some (nodesS p lab) := by
  unfold proof_Proof_Nodes nodesS
  by_cases h256 : 256 < p.path.length
  · rw [dec_t (by rw [lenI]; omega), if_pos rfl, if_pos h256]
  · rw [dec_f (by rw [lenI]; omega), if_neg (by simp), if_neg h256]
    by_cases e0 : p.end_ = 0
    · rw [e0]
      simp only [beq_self_eq_true, if_true]
      by_cases hn : 0 < p.path.length
      · rw [dec_t (by rw [lenI]; omega), if_pos rfl, if_pos hn]
      · rw [dec_f (by rw [lenI]; omega), if_neg (by simp), if_neg hn]
    · rw [show (p.end_ == 0) = false by simpa using e0, if_neg (by simp), if_neg e0]
      by_cases e1 : p.end_ = 1
      · rw [e1]
        simp only [beq_self_eq_true, if_true]
        rw [node_Check_leaf, some_bind]
        by_cases hz : leafErr p.leaf = 0
        · have h0 : (leafErr p.leaf != 0) = false := by simp [hz]
          obtain ⟨b, h1, h2⟩ := nodes_loop p lab hp (.leaf p.leaf) (leafItem p.leaf)
          rw [h0, if_neg (by simp), if_neg (by simp [hz]), req_t (by simp [LIM]), node_Leaf_Item_eq, some_bind, List.nil_append, h1, some_bind]
          exact h2
        · have h0 : (leafErr p.leaf != 0) = true := by simpa using hz
          rw [h0, if_pos rfl, if_pos hz]
      · rw [show (p.end_ == 1) = false by simpa using e1, if_neg (by simp), if_neg e1]
        by_cases e2 : p.end_ = 2
        · rw [e2]
          simp only [beq_self_eq_true, if_true]
          rw [node_Check_inner, some_bind]
          simp only
          by_cases hz : pairErr p.a p.b = 0
          · have h0 : (pairErr p.a p.b != 0) = false := by simp [hz]
            obtain ⟨b, h1, h2⟩ := nodes_loop p lab hp (.inner ⟨p.a, p.b⟩) (innerItem p.a p.b)
            rw [h0, if_neg (by simp), if_neg (by simp [hz]), req_t (by simp [LIM]), node_Inner_Item_eq, some_bind, bits_Has_eq, some_bind]
            simp only
            rw [show hasB (innerItem p.a p.b).len (innerItem p.a p.b).bits lab = hasI (innerItem p.a p.b) lab from rfl]
            cases hasI (innerItem p.a p.b) lab with
            | true => rfl
            | false =>
              simp only [Bool.false_eq_true, if_false]
              rw [nodes_s12, List.nil_append, h1, some_bind]
              exact h2
          · have h0 : (pairErr p.a p.b != 0) = true := by simpa using hz
            rw [h0, if_pos rfl, if_pos hz]
        · rw [show (p.end_ == 2) = false by simpa using e2, if_neg (by simp), if_neg e2]

/-! ### the document's -/
/-! ### what a proof says -/
def lastSum (l : List Nd) : Lab := match l.getLast? with | some n => (ndItem n).sum | none => emptyS
def checkP (top lab : Lab) (p : Proof) : Leaf × Bool × Int :=
  if (nodesS p lab).2 ≠ 0 then (zLf, false, (nodesS p lab).2)
  else if lastSum (nodesS p lab).1 ≠ top then (zLf, false, 11)
  else if p.end_ = 1 ∧ p.leaf.label = lab then (p.leaf, true, 0) else (zLf, false, 0)
theorem checkP_ok {top lab : Lab} {p : Proof} (h : (nodesS p lab).2 = 0) : checkP top lab p = if lastSum (nodesS p lab).1 ≠ top then (zLf, false, 11)
  else if p.end_ = 1 ∧ p.leaf.label = lab then (p.leaf, true, 0) else (zLf, false, 0) := by unfold checkP; exact if_neg (by simp [h])
theorem checkP_no {top lab : Lab} {p : Proof} (h : (nodesS p lab).2 ≠ 0) : checkP top lab p = (zLf, false, (nodesS p lab).2) := by unfold checkP; exact if_pos h
def NoNil (l : List Nd) : Prop := ∀ n ∈ l, n ≠ .nil
theorem ups_nonil (lab : Lab) : ∀ (r : List Item) (acc : List Nd) (x : Item), NoNil acc → NoNil (upsN (ups lab acc x r)).1
  | [], acc, x, h => h
  | y :: r, acc, x, h => by
    unfold ups
    split
    · intro n hn; simp [upsN] at hn
    · refine ups_nonil lab r _ _ fun n hn => ?_
      rcases List.mem_append.1 hn with hn | hn
      · exact h n hn
      · have := List.mem_singleton.1 hn; subst this; exact fun q => by cases q
theorem nodes_nonil (p : Proof) (lab : Lab) : NoNil (nodesS p lab).1 := by
  have hnil : NoNil [] := fun n hn => by simp at hn
  unfold nodesS
  split
  · exact hnil
  · split
    · split <;> exact hnil
    · split
      · split
        · exact hnil
        · exact ups_nonil _ _ _ _ fun n hn => by have := List.mem_singleton.1 hn; subst this; exact fun q => by cases q
      · split
        · split
          · exact hnil
          · split
            · exact hnil
            · exact ups_nonil _ _ _ _ fun n hn => by have := List.mem_singleton.1 hn; subst this; exact fun q => by cases q
        · exact hnil
theorem ups_length (lab : Lab) : ∀ (r : List Item) (acc : List Nd) (x : Item), (upsN (ups lab acc x r)).1.length ≤ acc.length + r.length
  | [], acc, x => by simp [ups, upsN]
  | y :: r, acc, x => by
    unfold ups
    split
    · simp [upsN]
    · have := ups_length lab r (acc ++ [.inner (upN x y)]) (inI (upN x y))
      simp at this ⊢; omega
theorem nodes_length (p : Proof) (lab : Lab) : (nodesS p lab).1.length ≤ 257 := by
  unfold nodesS
  split
  · simp
  · split
    · split <;> simp
    · split
      · split
        · simp
        · have := ups_length lab p.path [.leaf p.leaf] (leafItem p.leaf); simp at this; omega
      · split
        · split
          · simp
          · split
            · simp
            · have := ups_length lab p.path [.inner ⟨p.a, p.b⟩] (innerItem p.a p.b); simp at this; omega
        · simp
theorem say_eq (top lab s : Lab) (p : Proof) : (if (!(s == top)) = true then some ((⟨zL, zL, 0⟩ : Leaf), false, (11 : Int)) else ((if (p.end_ == (1 : Int)) = true then some (p.leaf.label == lab) else some false).bind fun b53 => (if b53 = true then some (p.leaf, true, (0 : Int)) else some ((⟨zL, zL, 0⟩ : Leaf), false, (0 : Int))))) =
    some (if s ≠ top then (zLf, false, 11) else if p.end_ = 1 ∧ p.leaf.label = lab then (p.leaf, true, 0) else (zLf, false, 0)) := by
  by_cases h : s = top
  · by_cases h1 : p.end_ = 1
    · by_cases h2 : p.leaf.label = lab <;> simp [h, h1, h2, zLf]
    · simp [h, h1, zLf]
  · simp [h, zLf]
theorem proof_Check_eq (top lab : Lab) (p : Proof) (hp : p.path.length ≤ 1000) : proof_Check top lab p = some (checkP top lab p) := by
  unfold proof_Check
  rw [proof_Nodes_eq p lab hp, some_bind]
  by_cases h : (nodesS p lab).2 = 0
  · rw [show ((nodesS p lab).2 != 0) = false by simp [h], if_neg (by simp), checkP_ok h, node_Empty_eq, some_bind]
    have hnn := nodes_nonil p lab
    have hlen := nodes_length p lab
    generalize (nodesS p lab).1 = l at hnn hlen
    rcases List.eq_nil_or_concat l with rfl | ⟨m, w, rfl⟩
    · rw [dec_f (by simp [lenI]), if_neg (by simp), say_eq]
      rfl
    · rw [List.concat_eq_append] at *
      rw [dec_t (by rw [lenI, List.length_append, List.length_singleton]; omega), if_pos rfl, wrap_id (by rw [lenI]; omega), req_t (by rw [lenI, List.length_append, List.length_singleton]; omega)]
      have hw : getI (m ++ [w]) (lenI (m ++ [w]) - 1) = w := by
        have := last_mid m w []
        simp only [List.append_nil] at this
        rw [lenI]; exact this
      have hls : lastSum (m ++ [w]) = (ndItem w).sum := by unfold lastSum; rw [List.getLast?_concat]
      rw [hw, hls]
      cases w with
      | leaf x => simp only; rw [node_Leaf_Item_eq, some_bind, say_eq]; rfl
      | inner x => simp only; rw [node_Inner_Item_eq, some_bind, say_eq]; rfl
      | nil => exact absurd rfl (hnn .nil (by simp))
  · rw [show ((nodesS p lab).2 != 0) = true by simpa using h, if_pos rfl, checkP_no h]; rfl
end
end Go.Ch
end
section
/- What is made is taken; what two ways have unlike. -/
set_option linter.unusedVariables false
set_option linter.unusedSimpArgs false
namespace Go.Ch
open Go.RowKit (wrap64)
noncomputable section

/-! ### the halves of a tree of leaves -/
theorem fork_lo {l : List Leaf} (h : Rise Leaf.label l) (h2 : 2 ≤ l.length) : (2 ≤ (loL l).length → fork Leaf.label l < fork Leaf.label (loL l)) ∧ (2 ≤ (hiL l).length → fork Leaf.label l < fork Leaf.label (hiL l)) := by
  have p := h.parts h2
  have hh := h.halves (fork Leaf.label l)
  constructor
  · intro h3
    have pa := hh.1.parts h3
    obtain ⟨c, rc, ec⟩ := first_of pa.lon
    obtain ⟨d, rd, ed⟩ := first_of pa.hin
    have hc : c ∈ lo Leaf.label (loL l) (fork Leaf.label (loL l)) := by unfold loL; rw [ec]; simp
    have hd : d ∈ hi Leaf.label (loL l) (fork Leaf.label (loL l)) := by unfold loL; rw [ed]; simp
    have hc2 : c ∈ loL l := (List.takeWhile_sublist _).subset hc
    have hd2 : d ∈ loL l := (List.dropWhile_sublist _).subset hd
    rcases Nat.lt_trichotomy (fork Leaf.label l) (fork Leaf.label (loL l)) with w | w | w
    · exact w
    · have := pa.hi1 d hd
      rw [show fork Leaf.label (lo Leaf.label l (fork Leaf.label l)) = fork Leaf.label (loL l) from rfl, ← w, p.lo0 d hd2] at this; cases this
    · have := p.same c ((List.takeWhile_sublist _).subset hc2) d ((List.takeWhile_sublist _).subset hd2) _ w
      have e1 := pa.lo0 c hc
      have e2 := pa.hi1 d hd
      rw [show fork Leaf.label (lo Leaf.label l (fork Leaf.label l)) = fork Leaf.label (loL l) from rfl] at e1 e2
      rw [e1, e2] at this; cases this
  · intro h3
    have pa := hh.2.parts h3
    obtain ⟨c, rc, ec⟩ := first_of pa.lon
    obtain ⟨d, rd, ed⟩ := first_of pa.hin
    have hc : c ∈ lo Leaf.label (hiL l) (fork Leaf.label (hiL l)) := by unfold hiL; rw [ec]; simp
    have hd : d ∈ hi Leaf.label (hiL l) (fork Leaf.label (hiL l)) := by unfold hiL; rw [ed]; simp
    have hc2 : c ∈ hiL l := (List.takeWhile_sublist _).subset hc
    have hd2 : d ∈ hiL l := (List.dropWhile_sublist _).subset hd
    rcases Nat.lt_trichotomy (fork Leaf.label l) (fork Leaf.label (hiL l)) with w | w | w
    · exact w
    · have := pa.lo0 c hc
      rw [show fork Leaf.label (hi Leaf.label l (fork Leaf.label l)) = fork Leaf.label (hiL l) from rfl, ← w, p.hi1 c hc2] at this; cases this
    · have := p.same c ((List.dropWhile_sublist _).subset hc2) d ((List.dropWhile_sublist _).subset hd2) _ w
      have e1 := pa.lo0 c hc
      have e2 := pa.hi1 d hd
      rw [show fork Leaf.label (hi Leaf.label l (fork Leaf.label l)) = fork Leaf.label (hiL l) from rfl] at e1 e2
      rw [e1, e2] at this; cases this
def leafOk (x : Leaf) : Prop := 0 ≤ x.at_ ∧ x.at_ ≤ 1073741824
theorem leafErr_ok {x : Leaf} (h : leafOk x) : leafErr x = 0 := by unfold leafErr leafOk at *; rw [if_neg (by omega)]
theorem tree_at : ∀ (n : Nat) (l : List Leaf), l.length ≤ n → Rise Leaf.label l → l ≠ [] → (∀ x ∈ l, leafOk x) → 0 ≤ (tree (lit l)).at_ ∧ (tree (lit l)).at_ ≤ 1073741824 := by
  intro n
  induction n with
  | zero => intro l hl _ hn; exact absurd (List.length_eq_zero_iff.1 (by omega)) hn
  | succ n ih =>
    intro l hl h hn ho
    by_cases h2 : 2 ≤ l.length
    · obtain ⟨q1, q2, q3, q4, q5, q6⟩ := halvesL h h2
      have a := ih (loL l) (by omega) q5 q1 (fun x hx => ho x ((List.takeWhile_sublist _).subset hx))
      have b := ih (hiL l) (by omega) q6 q2 (fun x hx => ho x ((List.dropWhile_sublist _).subset hx))
      rw [tree_leaves h h2]
      show 0 ≤ max _ _ ∧ max _ _ ≤ _
      omega
    · obtain ⟨x, rfl⟩ := one_of hn h2
      rw [show lit [x] = [leafItem x] from rfl, tree_one]
      exact ho x (by simp)
theorem tree_ok {l : List Leaf} (h : Rise Leaf.label l) (hn : l ≠ []) (ho : ∀ x ∈ l, leafOk x) : itGood (tree (lit l)) = true := by
  have ha := tree_at l.length l (Nat.le_refl _) h hn ho
  unfold itGood
  rw [dec_t ha, Bool.and_true]
  by_cases h2 : 2 ≤ l.length
  · exact tree_good (lit_rise.1 h) (by rw [lit_len]; exact h2)
  · obtain ⟨x, rfl⟩ := one_of hn h2
    rw [show lit [x] = [leafItem x] from rfl, tree_one]
    unfold goodB leafItem
    simp [cut_full]
/-- Bits of a half's tree, up to where the whole parts. -/
theorem half_bits {l : List Leaf} (h : Rise Leaf.label l) (h2 : 2 ≤ l.length) : (∀ k, k < fork Leaf.label l → bt (tree (lit (loL l))).bits k = bt (tree (lit (hiL l))).bits k) ∧ bt (tree (lit (loL l))).bits (fork Leaf.label l) = false ∧ bt (tree (lit (hiL l))).bits (fork Leaf.label l) = true ∧
    (fork Leaf.label l : Int) < (tree (lit (loL l))).len ∧ (fork Leaf.label l : Int) < (tree (lit (hiL l))).len := by
  have p := h.parts h2
  obtain ⟨q1, q2, q3, q4, q5, q6⟩ := halvesL h h2
  obtain ⟨f1, f2⟩ := fork_lo h h2
  obtain ⟨a, ra, ea⟩ := first_of q1
  obtain ⟨b, rb, eb⟩ := first_of q2
  have hla : a ∈ loL l := by rw [ea]; simp
  have hlb : b ∈ hiL l := by rw [eb]; simp
  have ta := (tree_bits _ (lit (loL l)) (Nat.le_refl _) (lit_rise.1 q5) (by rw [Ne, lit_nil]; exact q1) (leafItem a) (List.mem_map_of_mem hla)).2
  have tb := (tree_bits _ (lit (hiL l)) (Nat.le_refl _) (lit_rise.1 q6) (by rw [Ne, lit_nil]; exact q2) (leafItem b) (List.mem_map_of_mem hlb)).2
  have ta' : ∀ k, k ≤ fork Leaf.label l → bt (tree (lit (loL l))).bits k = bt a.label k := fun k hk => ta k fun h3 => by rw [lit_len] at h3; rw [← lit_fork]; have := f1 h3; omega
  have tb' : ∀ k, k ≤ fork Leaf.label l → bt (tree (lit (hiL l))).bits k = bt b.label k := fun k hk => tb k fun h3 => by rw [lit_len] at h3; rw [← lit_fork]; have := f2 h3; omega
  refine ⟨fun k hk => ?_, ?_, ?_, ?_, ?_⟩
  · rw [ta' k (by omega), tb' k (by omega)]
    exact p.same a ((List.takeWhile_sublist _).subset hla) b ((List.dropWhile_sublist _).subset hlb) k hk
  · rw [ta' _ (Nat.le_refl _)]; exact p.lo0 a hla
  · rw [tb' _ (Nat.le_refl _)]; exact p.hi1 b hlb
  · by_cases h3 : 2 ≤ (loL l).length
    · rw [tree_lenL q5 h3]; have := f1 h3; omega
    · obtain ⟨x, e⟩ := one_of q1 h3
      rw [e, show lit [x] = [leafItem x] from rfl, tree_one]; have := p.lt; show _ < (256 : Int); omega
  · by_cases h3 : 2 ≤ (hiL l).length
    · rw [tree_lenL q6 h3]; have := f2 h3; omega
    · obtain ⟨x, e⟩ := one_of q2 h3
      rw [e, show lit [x] = [leafItem x] from rfl, tree_one]; have := p.lt; show _ < (256 : Int); omega
theorem half_com {l : List Leaf} (h : Rise Leaf.label l) (h2 : 2 ≤ l.length) : com (tree (lit (loL l))).bits (tree (lit (hiL l))).bits = fork Leaf.label l ∧ lt (tree (lit (loL l))).bits (tree (lit (hiL l))).bits = true := by
  obtain ⟨b1, b2, b3, _, _⟩ := half_bits h h2
  have p := (h.parts h2).lt
  exact ⟨com_eq (by omega) b1 (fun _ => by simp [b2, b3]), lt_of p b1 b2 b3⟩
theorem half_pair {l : List Leaf} (h : Rise Leaf.label l) (h2 : 2 ≤ l.length) (ho : ∀ x ∈ l, leafOk x) : pairErr (tree (lit (loL l))) (tree (lit (hiL l))) = 0 := by
  obtain ⟨q1, q2, q3, q4, q5, q6⟩ := halvesL h h2
  obtain ⟨_, _, _, l1, l2⟩ := half_bits h h2
  obtain ⟨c1, c2⟩ := half_com h h2
  unfold pairErr
  rw [tree_ok q5 q1 (fun x hx => ho x ((List.takeWhile_sublist _).subset hx)), tree_ok q6 q2 (fun x hx => ho x ((List.dropWhile_sublist _).subset hx)), c1, c2, dec_f (by omega), dec_f (by omega)]
  rfl

/-! ### what is made is taken -/
/-- The nodes of the way in a tree, the top first. -/
def realN (l : List Leaf) (lab : Lab) : List Nd :=
  if h : (loL l).length < l.length ∧ (hiL l).length < l.length ∧ 2 ≤ l.length then
    Nd.inner ⟨tree (lit (loL l)), tree (lit (hiL l))⟩ ::
      (if hasI (tree (lit l)) lab = false then [] else if bt lab (fork Leaf.label l) = true then realN (hiL l) lab else realN (loL l) lab)
  else (l.head?.elim [] fun x => [Nd.leaf x])
termination_by l.length
decreasing_by
  · exact h.2.1
  · exact h.1
theorem realN_two {l : List Leaf} (h : Rise Leaf.label l) (h2 : 2 ≤ l.length) (lab : Lab) : realN l lab = Nd.inner ⟨tree (lit (loL l)), tree (lit (hiL l))⟩ ::
      (if hasI (tree (lit l)) lab = false then [] else if bt lab (fork Leaf.label l) = true then realN (hiL l) lab else realN (loL l) lab) := by
  obtain ⟨_, _, q3, q4, _, _⟩ := halvesL h h2
  rw [realN, dif_pos ⟨q3, q4, h2⟩]
theorem realN_one (x : Leaf) (lab : Lab) : realN [x] lab = [Nd.leaf x] := by rw [realN, dif_neg (by simp)]; rfl
theorem realN_nil (lab : Lab) : realN [] lab = [] := by rw [realN, dif_neg (by simp)]; rfl
theorem ups_app (lab : Lab) : ∀ (r s : List Item) (acc : List Nd) (x : Item), ups lab acc x (r ++ s) = match ups lab acc x r with | .inl e => .inl e | .inr (a, y) => ups lab a y s
  | [], s, acc, x => rfl
  | y :: r, s, acc, x => by
    rw [List.cons_append, ups, ups]
    split
    · rfl
    · exact ups_app lab r s _ _
def startS (p : Proof) (lab : Lab) : Int ⊕ (Nd × Item) :=
  if p.end_ = 1 then (if leafErr p.leaf ≠ 0 then .inl (leafErr p.leaf) else .inr (.leaf p.leaf, leafItem p.leaf))
  else (if pairErr p.a p.b ≠ 0 then .inl (pairErr p.a p.b) else if hasI (innerItem p.a p.b) lab = true then .inl 11 else .inr (.inner ⟨p.a, p.b⟩, innerItem p.a p.b))
def runS (p : Proof) (lab : Lab) : Int ⊕ (List Nd × Item) := match startS p lab with | .inl e => .inl e | .inr (n, x) => ups lab [n] x p.path
theorem nodes_run (p : Proof) (lab : Lab) (he : p.end_ = 1 ∨ p.end_ = 2) (hp : p.path.length ≤ 256) : nodesS p lab = upsN (runS p lab) := by
  unfold nodesS runS startS
  have h256 : ¬ 256 < p.path.length := by omega
  rcases he with e | e
  · simp only [h256, e, if_false, if_true]
    by_cases hz : leafErr p.leaf = 0
    · simp [hz]
    · simp [hz, upsN]
  · simp only [h256, e, if_false, if_true]
    by_cases hz : pairErr p.a p.b = 0
    · simp only [hz]
      cases hasI (innerItem p.a p.b) lab <;> simp [upsN]
    · simp [hz, upsN]
theorem run_adds (p : Proof) (lab : Lab) (x : Item) : runS (p.adds [x]) lab = match runS p lab with | .inl e => .inl e | .inr (a, y) => ups lab a y [x] := by
  unfold runS
  have : startS (p.adds [x]) lab = startS p lab := rfl
  rw [this]
  cases startS p lab with
  | inl e => rfl
  | inr q => exact ups_app lab p.path [x] [q.1] q.2
theorem way_run (lab : Lab) : ∀ (n : Nat) (l : List Leaf), l.length ≤ n → Rise Leaf.label l → l ≠ [] → (∀ x ∈ l, leafOk x) →
    ((way l lab).end_ = 1 ∨ (way l lab).end_ = 2) ∧ (way l lab).path.length < l.length ∧ runS (way l lab) lab = .inr ((realN l lab).reverse, tree (lit l)) := by
  intro n
  induction n with
  | zero => intro l hl _ hn; exact absurd (List.length_eq_zero_iff.1 (by omega)) hn
  | succ n ih =>
    intro l hl h hn ho
    by_cases h2 : 2 ≤ l.length
    · obtain ⟨q1, q2, q3, q4, q5, q6⟩ := halvesL h h2
      obtain ⟨b1, b2, b3, _, _⟩ := half_bits h h2
      obtain ⟨c1, c2⟩ := half_com h h2
      have hp := half_pair h h2 ho
      have ht := tree_leaves h h2
      rw [way_two h h2, realN_two h h2]
      cases hh : hasI (tree (lit l)) lab with
      | false =>
        simp only [if_true]
        refine ⟨.inr trivial, by show 0 < _; omega, ?_⟩
        rw [ht] at hh
        unfold runS startS
        simp only [hp, hh]
        rw [ht]
        rfl
      | true =>
        have hnot : ¬ true = false := by simp
        rw [if_neg hnot, if_neg hnot]
        cases hb : bt lab (fork Leaf.label l) with
        | true =>
          simp only [if_true]
          obtain ⟨i1, i2, i3⟩ := ih (hiL l) (by omega) q6 q2 (fun x hx => ho x ((List.dropWhile_sublist _).subset hx))
          refine ⟨i1, by simp [Proof.adds]; omega, ?_⟩
          rw [run_adds, i3]
          have hu : upN (tree (lit (hiL l))) (tree (lit (loL l))) = ⟨tree (lit (loL l)), tree (lit (hiL l))⟩ := by unfold upN; rw [if_pos c2]
          have he : upE (tree (lit (hiL l))) (tree (lit (loL l))) lab = 0 := by
            unfold upE
            rw [hu]
            rw [if_neg (by simp [hp])]
            unfold upBad inI
            rw [← ht, hh, c1, hb, b3]; rfl
          simp only
          rw [ups, if_neg (by simp [he]), ups, hu]
          rw [List.reverse_cons, inI, ← ht]
        | false =>
          simp only [Bool.false_eq_true, if_false]
          obtain ⟨i1, i2, i3⟩ := ih (loL l) (by omega) q5 q1 (fun x hx => ho x ((List.takeWhile_sublist _).subset hx))
          refine ⟨i1, by simp [Proof.adds]; omega, ?_⟩
          rw [run_adds, i3]
          have hu : upN (tree (lit (loL l))) (tree (lit (hiL l))) = ⟨tree (lit (loL l)), tree (lit (hiL l))⟩ := by unfold upN; rw [lt_asymm c2]; rfl
          have he : upE (tree (lit (loL l))) (tree (lit (hiL l))) lab = 0 := by
            unfold upE
            rw [hu]
            rw [if_neg (by simp [hp])]
            unfold upBad inI
            rw [← ht, hh, c1, hb, b2]; rfl
          simp only
          rw [ups, if_neg (by simp [he]), ups, hu]
          rw [List.reverse_cons, inI, ← ht]
    · obtain ⟨x, rfl⟩ := one_of hn h2
      rw [way_one, realN_one, show lit [x] = [leafItem x] from rfl, tree_one]
      refine ⟨.inl rfl, by simp, ?_⟩
      unfold runS startS
      simp only [leafErr_ok (ho x (by simp))]
      rfl
/-- The nodes of what is made. -/
theorem way_nodes (lab : Lab) (l : List Leaf) (hl : l.length ≤ 256) (h : Rise Leaf.label l) (ho : ∀ x ∈ l, leafOk x) : nodesS (way l lab) lab = ((realN l lab).reverse, 0) := by
  by_cases hn : l = []
  · subst hn
    rw [way_nil, realN_nil]
    rfl
  · obtain ⟨e, p, r⟩ := way_run lab l.length l (Nat.le_refl _) h hn ho
    rw [nodes_run _ _ e (by omega), r]
    rfl
theorem ok_of_check {l : List Leaf} (h : checkS (ofS l) = 0) : ∀ x ∈ sortLf l, leafOk x := fun x hx => by
  have := (check_rise h).2.1 (leafItem x) (by rw [ofS_sort]; exact List.mem_map_of_mem hx)
  unfold itGood at this
  simp only [Bool.and_eq_true, decide_eq_true_eq] at this
  exact this.2
end
end Go.Ch
end
section
/- What two ways have unlike: the program's, the document's. -/
set_option linter.unusedVariables false
set_option linter.unusedSimpArgs false
namespace Go.Ch
open Go.RowKit (wrap64)
noncomputable section

/-! ### the document's -/
end
end Go.Ch
end
section
/- The two tellings of what is unlike are one. -/
set_option linter.unusedVariables false
set_option linter.unusedSimpArgs false
namespace Go.Ch
open Go.RowKit (wrap64)
noncomputable section

/-! ### the statement's loop -/
theorem cutP_len (p : Proof) : (cutP p).path.length ≤ 300 := by unfold cutP; simp; omega
end
end Go.Ch
end
section
/- What the document fixes; the statement's whole answer. -/
set_option linter.unusedVariables false
set_option linter.unusedSimpArgs false
set_option maxRecDepth 100000
namespace Go.Ch
open Go.RowKit (wrap64)
noncomputable section

/-- Is a label below a tree? -/
theorem has_tree {l : List Leaf} (h : Rise Leaf.label l) (h2 : 2 ≤ l.length) (x : Leaf) (hx : x ∈ l) (lab : Lab) : hasI (tree (lit l)) lab = decide (fork Leaf.label l ≤ com x.label lab) := by
  have hI := lit_rise.1 h
  have h2' : 2 ≤ (lit l).length := by rw [lit_len]; exact h2
  have p := (h.parts h2).lt
  have hn : lit l ≠ [] := by intro e; rw [e] at h2'; simp at h2'
  obtain ⟨e1, e2⟩ := (tree_bits _ (lit l) (Nat.le_refl _) hI hn (leafItem x) (List.mem_map_of_mem hx)).1 h2'
  rw [← lit_fork] at e1 e2
  unfold hasI
  rw [← has_same (tree_good hI h2'), e1, e2, clampN_nat (by omega)]
  have := cut_eq_iff x.label lab (fork Leaf.label l) (by omega)
  by_cases c : fork Leaf.label l ≤ com x.label lab
  · rw [dec_t c, beq_iff_eq]; exact (this.2 c).symm
  · rw [dec_f c, beq_eq_false_iff_ne]; exact fun q => c (this.1 q.symm)
theorem realN_top {l : List Leaf} (lab : Lab) (h : Rise Leaf.label l) (hn : l ≠ []) : ∃ n r, realN l lab = n :: r ∧ ndItem n = tree (lit l) := by
  by_cases h2 : 2 ≤ l.length
  · rw [realN_two h h2]
    exact ⟨_, _, rfl, (tree_leaves h h2).symm⟩
  · obtain ⟨x, rfl⟩ := one_of hn h2
    rw [realN_one, show lit [x] = [leafItem x] from rfl, tree_one]
    exact ⟨_, _, rfl, rfl⟩
/-- What is made for a tree is taken for it. -/
theorem made_taken (l : List Leaf) (lab : Lab) (hl : l.length ≤ 250) (h : checkS (ofS l) = 0) :
    checkP (topS (ofS l)) lab (way (sortLf l) lab) = if (way (sortLf l) lab).end_ = 1 ∧ (way (sortLf l) lab).leaf.label = lab then ((way (sortLf l) lab).leaf, true, 0) else (zLf, false, 0) := by
  have hr := sorted_of_check h
  have hsl : (sortLf l).length = l.length := sort_length _ _
  have hn := way_nodes lab (sortLf l) (by omega) hr (ok_of_check h)
  rw [checkP_ok (by rw [hn])]
  have hs : lastSum (nodesS (way (sortLf l) lab) lab).1 = topS (ofS l) := by
    rw [hn, ofS_sort]
    unfold topS lastSum
    by_cases he : sortLf l = []
    · rw [he, realN_nil]; rfl
    · obtain ⟨n, r, e1, e2⟩ := realN_top lab hr he
      rw [e1, if_neg (by simpa using he)]
      simp only [List.reverse_cons, List.getLast?_concat]
      rw [e2]; rfl
  rw [if_neg (by simp [hs])]

/-! ### three leaves -/
def l40 : Lab := setV zL 0 64
def l80 : Lab := setV zL 0 128
def lc0 : Lab := setV zL 0 192
def lfA : Leaf := ⟨zL, zL, 0⟩
def lfB : Leaf := ⟨l40, zL, 5⟩
def lfC : Leaf := ⟨l80, zL, 0⟩
theorem three_sort : sortLf [lfA, lfB, lfC] = [lfA, lfB, lfC] := by decide +kernel
theorem three_check : checkS (ofS [lfA, lfB, lfC]) = 0 := by
  rw [ofS_sort, three_sort]
  decide +kernel
theorem three_rise : Rise Leaf.label [lfA, lfB, lfC] := by
  have := sorted_of_check three_check
  rwa [three_sort] at this
theorem three_fork : fork Leaf.label [lfA, lfB, lfC] = 0 ∧ loL [lfA, lfB, lfC] = [lfA, lfB] ∧ hiL [lfA, lfB, lfC] = [lfC] ∧ fork Leaf.label [lfA, lfB] = 1 ∧ loL [lfA, lfB] = [lfA] ∧ hiL [lfA, lfB] = [lfB] := by decide +kernel
theorem three_bits : bt l40 0 = false ∧ bt l40 1 = true ∧ bt lc0 0 = true ∧ com lfA.label l40 = 1 ∧ l80 ≠ lc0 := by decide +kernel
theorem way_40 : way [lfA, lfB, lfC] l40 = ((⟨1, lfB, zIt, zIt, []⟩ : Proof).adds [tree (lit [lfA])]).adds [tree (lit [lfC])] := by
  obtain ⟨f1, f2, f3, f4, f5, f6⟩ := three_fork
  obtain ⟨b1, b2, b3, b4, b5⟩ := three_bits
  have h1 := three_rise
  have h2 : Rise Leaf.label [lfA, lfB] := h1.sub (by simp)
  rw [way_two h1 (by simp), has_tree h1 (by simp) lfA (by simp), f1, b1, f2, f3, dec_t (Nat.zero_le _), if_neg (by simp), if_neg (by simp)]
  rw [way_two h2 (by simp), has_tree h2 (by simp) lfA (by simp), f4, b2, b4, f5, f6, dec_t (Nat.le_refl _), if_neg (by simp), if_pos rfl, way_one]
theorem way_c0 : way [lfA, lfB, lfC] lc0 = (⟨1, lfC, zIt, zIt, []⟩ : Proof).adds [tree (lit [lfA, lfB])] := by
  obtain ⟨f1, f2, f3, f4, f5, f6⟩ := three_fork
  obtain ⟨b1, b2, b3, b4, b5⟩ := three_bits
  have h1 := three_rise
  rw [way_two h1 (by simp), has_tree h1 (by simp) lfA (by simp), f1, b3, f2, f3, dec_t (Nat.zero_le _), if_neg (by simp), if_pos rfl, way_one]
theorem l18_awake_eq (k : Nat) (hk : 20 ≤ k) : l18_awake k = some true := by
  have hc := three_check
  have hs := three_sort
  have t40 := made_taken [lfA, lfB, lfC] l40 (by simp) hc
  have tc0 := made_taken [lfA, lfB, lfC] lc0 (by simp) hc
  have m40 := proof_Make_eq k [lfA, lfB, lfC] l40 (by simp) (by simp; omega)
  have mc0 := proof_Make_eq k [lfA, lfB, lfC] lc0 (by simp) (by simp; omega)
  rw [if_pos hc, hs, way_40] at m40
  rw [if_pos hc, hs, way_c0] at mc0
  rw [hs, way_40] at t40
  rw [hs, way_c0] at tc0
  rw [if_pos ⟨rfl, rfl⟩] at t40
  rw [if_neg (fun q => three_bits.2.2.2.2 q.2)] at tc0
  unfold l18_awake
  rw [show ([(⟨zL, zL, 0⟩ : Leaf), (⟨(setV zL 0 64), zL, (5 : Int)⟩ : Leaf), (⟨(setV zL 0 128), zL, 0⟩ : Leaf)] : List Leaf) = [lfA, lfB, lfC] from rfl, show (setV zL 0 64 : Lab) = l40 from rfl, show (setV zL 0 192 : Lab) = lc0 from rfl]
  rw [patch_Of_eq k _ (by simp), some_bind, patch_Top_eq k _ (by rw [ofS_length]; simp; omega) (by rw [ofS_length]; simp), some_bind, if_pos hc, m40, some_bind]
  dsimp only
  rw [proof_Check_eq _ _ _ (by simp [Proof.adds]), some_bind, t40, mc0, some_bind]
  dsimp only
  rw [proof_Check_eq _ _ _ (by simp [Proof.adds]), some_bind, tc0]
  rfl
end
end Go.Ch
end
section
/- ProofReads: every input's answer. -/
set_option linter.unusedVariables false
set_option linter.unusedSimpArgs false
namespace Go.Ch
open Go.RowKit (wrap64)
noncomputable section

theorem l03_Cut_eq (s : Str) (n : Nat) (h : n ≤ 1000000) : l03_Cut s (n : Int) = some (s.take n) := by
  unfold l03_Cut
  by_cases q : n < s.length
  · rw [dec_t (by simp [lenI]; omega), if_pos rfl, req_t (by simp [lenI]; omega)]
    simp [cutL]
  · rw [dec_f (by simp [lenI]; omega), if_neg (by simp), List.take_of_length_le (by omega)]
theorem l18_ProofReads_true (s : Str) (p : Proof) (h : p.end_ < 9223372036854775808) : l18_ProofReads 20 s p = some true := by
  unfold l18_ProofReads
  have hp := cutP_len p
  obtain ⟨q, e, r1, r2, r3⟩ := reads (s.take 3000) (by simp; omega)
  obtain ⟨t, e', w1, w2⟩ := writes_same (cutP p) (by omega) h
  rw [show ((3000 : Int)) = ((3000 : Nat) : Int) from rfl, l03_Cut_eq _ _ (by omega), some_bind, l18_Cut_eq, some_bind, r1, some_bind, r2, some_bind, l18_awake_eq 20 (Nat.le_refl _), some_bind]
  simp only [Bool.not_true, Bool.false_eq_true, if_false, bne_self_eq_false]
  rw [l18_Told_eq q (by omega), some_bind, r18_Same_self q (by omega), some_bind]
  simp only [Bool.not_true, some_bind, Bool.false_eq_true, if_false]
  rw [w1, some_bind, l18_Told_eq _ hp, some_bind, w2, some_bind]
  simp
end
end Go.Ch
end
section
/- ProofReads: whatever the input, it returns true, and the input reads as it did. -/
set_option linter.unusedVariables false
set_option linter.unusedSimpArgs false
set_option maxRecDepth 100000
namespace Go.Proofs.YtchjaknlegaegaaGreat
open Go.Ch Go.ChangeShapes Go.WideShapes Go.ChangeAt Go.RowKit

theorem Tryz.own : ownKnob Tryz.prog.godebug = none := by kernel_rfl
theorem Tryz.laidOut : laidOutB Tryz.prog = true := by kernel_rfl
theorem labT : LabT Tryz.prog 23 := ⟨⟨_, Tryz.underlying23, Tryz.underlying5, by kernel_rfl, by kernel_rfl⟩⟩
theorem intT : I64T Tryz.prog 3 := ⟨Tryz.underlying3⟩
theorem leafT : FlT Tryz.prog 25 [(23, 0, 32), (23, 32, 32), (3, 64, 1)] 65 := ⟨⟨_, Tryz.underlying25, by kernel_rfl, by kernel_rfl, by kernel_rfl⟩⟩
theorem pfxT : FlT Tryz.prog 27 [(3, 0, 1), (23, 1, 32)] 33 := ⟨⟨_, Tryz.underlying27, by kernel_rfl, by kernel_rfl, by kernel_rfl⟩⟩
theorem itemT : FlT Tryz.prog 29 [(27, 0, 33), (23, 33, 32), (3, 65, 1)] 66 := ⟨⟨_, Tryz.underlying29, by kernel_rfl, by kernel_rfl, by kernel_rfl⟩⟩
theorem innerT : FlT Tryz.prog 31 [(29, 0, 66), (29, 66, 66)] 132 := ⟨⟨_, Tryz.underlying31, by kernel_rfl, by kernel_rfl, by kernel_rfl⟩⟩
theorem proofT : FlT Tryz.prog 34 [(3, 0, 1), (25, 1, 65), (31, 66, 132), (32, 198, 1)] 199 := ⟨⟨_, Tryz.underlying34, by kernel_rfl, by kernel_rfl, by kernel_rfl⟩⟩

theorem proofReads_lifted (os : Os) (started : os.Started) (H : Type) (enc : TypeId × Value → H) :
    ReturnsInHanded {} Tryz.checked os 5 .any (Rows.proofReadsSpec.pre6 enc Tryz.prog Tryz.f5 Rows.proofReadsRow.domain false) (Rows.proofReadsSpec.post enc Tryz.prog Tryz.f5 false true false false) := by
  refine returnsInHanded_of_change (C := Tryz.checked) Tryz.own started (by kernel_rfl) Tryz.func5
    (ChangeSpec.witness6 (enc := enc) (C := Tryz.checked) false ⟨#[], #[.string ⟨#[]⟩, aggV [sV (.int .i64 0), sL zL, sL zL, sV (.int .i64 0), sV (.int .i64 0), sL zL, sL zL, sV (.int .i64 0), sV (.int .i64 0), sL zL, sL zL, sV (.int .i64 0), sV (.slice none 0 0)]], []⟩ 12 (by kernel_rfl) (by kernel_rfl) (by kernel_rfl) (by kernel_rfl)) ?_
  intro W base args ds gs before hval0 hW hcnd _
  have hval : ∀ (j : Nat) t v, Tryz.f5.params[j]? = some t → args[j]? = some v → Value.okWide Tryz.prog W .any base t v := hval0
  have hW' := hW
  obtain ⟨p, q, hA0, hV, rfl, hfz, hnd⟩ := hW
  have hA : DataW.TrodAll enc Tryz.prog W 0 (fun _ => true) true Tryz.f5.params.toList args.toList ds p := hA0
  rw [Tryz.params5] at hA hval
  obtain ⟨v0, v1, d0, d1, p0, p1, rfl, rfl, rfl, h0, h1⟩ := trodAll_two hA
  obtain ⟨a0, rfl⟩ := arg_str Tryz.underlying9 (hval 0 9 v0 rfl rfl)
  obtain ⟨f1, h1⟩ := h1
  obtain ⟨a1, w1, hc1, hs1, _, ok1⟩ := trod_proof proofT leafT innerT itemT pfxT labT intT Tryz.underlying32 h1
  obtain ⟨cs1, hv1⟩ := arg_agg (.inl ⟨_, Tryz.underlying34⟩) (hval 1 34 v1 rfl rfl)
  have e1 := agg_of hv1 hc1
  have hb : a1.end_ < 9223372036854775808 := by
    have := ok1.1.2
    have e : IntKind.i64.max = 9223372036854775807 := by decide
    rw [e] at this; omega
  have hk := l18_ProofReads_ok 20 a0.data.toList a1 (S := hp W) hs1 (l18_ProofReads_true a0.data.toList a1 hb)
  rw [← e1, show strV a0.data.toList = .string a0 by unfold strV; rw [Array.toArray_toList]] at hk
  exact law_calls (tb := 4) Tryz.laidOut hW' rfl ⟨rfl, rfl, rfl⟩ (by kernel_rfl) rfl Tryz.underlying4 hk

theorem proofReads_holds : Rows.ProofReadsSaid :=
  OpenClaim.holds_of_wide 5 Tryz.f5 rfl rfl rfl rfl rfl rfl rfl ⟨rfl, rfl, rfl, rfl, rfl⟩ rfl rfl rfl rfl rfl (by kernel_rfl) Tryz.func5 (by kernel_rfl)
    (of_decide_eq_true (by kernel_rfl)) (by unfold Func.isWrapper; first | (rw [if_pos (by decide +kernel)]; kernel_rfl) | (rw [if_neg (by decide +kernel)]; exact ⟨rfl, rfl⟩))
    (fun os started H enc _ => proofReads_lifted os started H enc)
#print axioms proofReads_holds
end Go.Proofs.YtchjaknlegaegaaGreat
end
